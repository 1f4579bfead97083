/- Texts joined: Rules, Rep, Row, Data, Num, Gen, Grow, Ob. -/
import Derived.Test.YtgkmcnafkhdlnaaGreatSoundC
import Derived.Test.YtgkmcnafkhdlnaaGreatChecked
import Derived.ChangeStays
import Derived.ChangeBook
import Derived.ProofKit
import Derived.HandedShaped
import Derived.RowKit
import Derived.ChangeShapes
import Derived.WideShapes
import Derived.Below
import Derived.KernelRfl
set_option linter.unusedVariables false
set_option linter.unusedSimpArgs false
/- Rules for what the executor asks. -/
namespace Go.Proofs.YtgkmcnafkhdlnaaGreat
open Go
/-- Rounds by an invariant and a measure. -/
theorem loopP_inv {ks : List K} {F : CurF (CurP ks → Prop) ks} {s : Ty ks} {V : View} (I : Ty ks → View → Prop) (m : Ty ks → View → Nat) (h0 : I s V)
    (step : ∀ s V, I s V → uncF ks F s V (cur ks fun s' V' => I s' V' ∧ m s' V' < m s V)) : loopP ks F s V := by
  intro Q hQ
  have key : ∀ n s V, m s V = n → I s V → Q s V := by
    intro n
    induction n using Nat.strongRecOn with
    | _ n ih =>
      intro s V hm hi
      exact hQ s V ⟨_, fun s' V' h => ih _ (by rw [← hm]; exact h.2) s' V' rfl h.1, step s V hi⟩
  exact key _ s V rfl h0
/-- One number goes round. -/
theorem loop1 [DrK] {k : K} {F : k.ty → View → (k.ty → View → Prop) → Prop} {x : k.ty} {V : View} (I : k.ty → View → Prop) (m : k.ty → View → Nat) (h0 : I x V)
    (step : ∀ x V, I x V → F x V fun x' V' => I x' V' ∧ m x' V' < m x V) : loopP [k] F (x, ()) V :=
  loopP_inv (fun s V => I s.1 V) (fun s V => m s.1 V) h0 fun s V h => step s.1 V h
theorem loop0 [DrK] {F : View → (View → Prop) → Prop} {V : View} (I : View → Prop) (m : View → Nat) (h0 : I V)
    (step : ∀ V, I V → F V fun V' => I V' ∧ m V' < m V) : loopP [] F () V :=
  loopP_inv (fun _ V => I V) (fun _ V => m V) h0 fun _ V h => step V h
theorem loop2 [DrK] {k l : K} {F : k.ty → l.ty → View → (k.ty → l.ty → View → Prop) → Prop} {x : k.ty} {y : l.ty} {V : View} (I : k.ty → l.ty → View → Prop) (m : k.ty → l.ty → View → Nat) (h0 : I x y V)
    (step : ∀ x y V, I x y V → F x y V fun x' y' V' => I x' y' V' ∧ m x' y' V' < m x y V) : loopP [k, l] F (x, y, ()) V :=
  loopP_inv (fun s V => I s.1 s.2.1 V) (fun s V => m s.1 s.2.1 V) h0 fun s V h => step s.1 s.2.1 V h
@[simp] theorem br_true (A B : Prop) : br true A B = A := rfl
@[simp] theorem br_false (A B : Prop) : br false A B = B := rfl
theorem br_intro {g : Bool} {A B : Prop} (h1 : g = true → A) (h2 : g = false → B) : br g A B := by
  cases g
  · exact h2 rfl
  · exact h1 rfl
/-- Ways meet with what J says. -/
theorem joinP_cut {ks : List K} {body : CurP ks → Prop} {k : CurP ks} (J : Ty ks → View → Prop) (h : body (cur ks J)) (h2 : ∀ s V, J s V → unc ks k s V) : joinP ks body k := ⟨J, h, h2⟩
/-- At the end: a call of a view's function is a call in its world. -/
theorem CallV.at [DrK] {P : Program} {f : FuncId} {args : Array Value} {V : View} {K : Value → View → Prop} (h : CallV P f args V K) {w : World} (hw : V.In w) :
    Calls P f args w fun e w' => ∃ r V', e = .returned r ∧ V'.In w' ∧ Fr V w V' w' ∧ K r V' := h.2 w hw

/-! ### frames -/
/-- A call that needs U alone leaves what V sees beside U as it was. -/
theorem CallV.frameS {P : Program} {f : FuncId} {args : Array Value} {U V : View} {K : Value → View → Prop} (hU : U.Le V) (h : CallV P f args U K) :
    CallV P f args V fun r V' => ∃ U', K r U' ∧ U'.Le V' ∧ V.size ≤ V'.size ∧ (∀ i o, U.see i = none → V.see i = some o → V'.see i = some o ∧ U'.see i = none) := by
  refine ⟨h.1, fun w hw => (h.2 w (hU.In hw)).mono fun e w' ⟨r, U', he, hi, hf, hr⟩ => ?_⟩
  have hlt : ∀ i o, V.see i = some o → i < w.heap.size := fun i o ho => Nat.lt_of_lt_of_le (V.lt i o ho) hw.size
  let V' : View := ⟨max U'.size V.size, fun i => match U'.see i with
    | some o => some o
    | none => match U.see i with
      | some _ => none
      | none => V.see i, U'.out, fun i o ho => by
        cases h1 : U'.see i with
        | some o1 => have := U'.lt i o1 h1; omega
        | none =>
          simp only [h1] at ho
          cases h2 : U.see i with
          | some o2 => simp [h2] at ho
          | none => simp only [h2] at ho; have := V.lt i o ho; omega⟩
  refine ⟨r, V', he, ⟨?_, ?_, hi.out⟩, ⟨hf.size, ?_, hf.drawn⟩, U', hr, ⟨Nat.le_max_left _ _, ?_, rfl⟩, Nat.le_max_right _ _, ?_⟩
  · have h1 := hi.size; have h2 := hw.size; have h3 := hf.size
    show max U'.size V.size ≤ _
    omega
  · intro i o ho
    change (match U'.see i with
      | some o => some o
      | none => match U.see i with
        | some _ => none
        | none => V.see i) = some o at ho
    cases h1 : U'.see i with
    | some o1 => rw [h1] at ho; exact hi.see i o (by rw [h1]; exact ho)
    | none =>
      rw [h1] at ho
      cases h2 : U.see i with
      | some o2 => rw [h2] at ho; cases ho
      | none =>
        rw [h2] at ho
        have hl := hlt i o ho
        rw [(hf.hid i hl h2).2]
        exact hw.see i o ho
  · intro i hl hn
    have h2 : U.see i = none := by
      cases h2 : U.see i with
      | none => rfl
      | some o => rw [hU.see i o h2] at hn; cases hn
    have h3 := hf.hid i hl h2
    refine ⟨?_, h3.2⟩
    show (match U'.see i with
      | some o => some o
      | none => match U.see i with
        | some _ => none
        | none => V.see i) = none
    rw [h3.1, h2]; exact hn
  · intro i o ho
    show (match U'.see i with
      | some o => some o
      | none => match U.see i with
        | some _ => none
        | none => V.see i) = some o
    rw [ho]
  · intro i o h2 ho
    have h3 := hf.hid i (hlt i o ho) h2
    refine ⟨?_, h3.1⟩
    show (match U'.see i with
      | some o => some o
      | none => match U.see i with
        | some _ => none
        | none => V.see i) = some o
    rw [h3.1, h2]; exact ho

theorem CallV.frame {P : Program} {f : FuncId} {args : Array Value} {U V : View} {K : Value → View → Prop} (hU : U.Le V) (h : CallV P f args U K) :
    CallV P f args V fun r V' => ∃ U', K r U' ∧ U'.Le V' ∧ (∀ i o, U.see i = none → V.see i = some o → V'.see i = some o ∧ U'.see i = none) :=
  (CallV.frameS hU h).mono fun _ _ ⟨U', a, b, _, c⟩ => ⟨U', a, b, c⟩
/-- A call that only adds to what it needs only adds to what is seen. -/
theorem CallV.frameG {P : Program} {f : FuncId} {args : Array Value} {U V : View} {K : Value → View → Prop} (hU : U.Le V) (h : CallV P f args U fun r U' => K r U' ∧ U.Le U') :
    CallV P f args V fun r V' => ∃ U', K r U' ∧ U.Le U' ∧ U'.Le V' ∧ V.Le V' ∧ (∀ i o, U.see i = none → V.see i = some o → U'.see i = none) := by
  refine (CallV.frameS hU h).mono ?_
  rintro r V' ⟨U', ⟨hk, hle⟩, h2, h3, h4⟩
  refine ⟨U', hk, hle, h2, ⟨h3, fun i o ho => ?_, h2.out.trans (hle.out.trans hU.out.symm)⟩, fun i o h5 h6 => (h4 i o h5 h6).2⟩
  cases hs : U.see i with
  | none => exact (h4 i o hs ho).1
  | some o' =>
    have e := hU.see i o' hs
    rw [ho] at e
    cases e
    exact h2.see _ _ (hle.see _ _ hs)

/-! ### addresses, cells -/
theorem Addr.add_zero (a : Addr) : a.add 0 = a := by simp [Addr.add]
theorem Addr.add_add (a : Addr) (m n : Nat) : (a.add m).add n = a.add (m + n) := by
  unfold Addr.add
  by_cases h : m = 0 <;> by_cases k : n = 0 <;> simp [h, k] <;> omega
theorem map_add_zero (a : Option Addr) : Option.map (fun (x : Addr) => Addr.add x 0) a = a := by cases a <;> simp [Addr.add_zero]
theorem cellsAt_mono {V V' : View} (h : V.Le V') {a : Addr} {vs : List Value} (hc : cellsAt V a vs) : cellsAt V' a vs := fun j v hj => h.cell (hc j v hj)
theorem cellsAt_one {V : View} {a : Addr} {v : Value} : cellsAt V a [v] ↔ V.cell? a = some v := by
  constructor
  · intro h; have := h 0 v rfl; rwa [Addr.add_zero] at this
  · intro h j x hj
    cases j with
    | zero => simp at hj; subst hj; rwa [Addr.add_zero]
    | succ j => simp at hj
theorem cellsAt_append {V : View} {a : Addr} {vs us : List Value} : cellsAt V a (vs ++ us) ↔ cellsAt V a vs ∧ cellsAt V (a.add vs.length) us := by
  constructor
  · intro h
    refine ⟨fun j v hj => h j v (by rw [List.getElem?_append_left (List.getElem?_eq_some_iff.1 hj).1]; exact hj), fun j v hj => ?_⟩
    rw [Addr.add_add]
    exact h _ v (by rw [List.getElem?_append_right (by omega)]; simpa using hj)
  · rintro ⟨h1, h2⟩ j v hj
    by_cases hl : j < vs.length
    · rw [List.getElem?_append_left hl] at hj; exact h1 j v hj
    · rw [List.getElem?_append_right (by omega)] at hj
      have := h2 _ v hj
      rw [Addr.add_add] at this
      rwa [show vs.length + (j - vs.length) = j by omega] at this
theorem cell_of_see {V : View} {b : Nat} {cs : List Value} {e : TypeId} {f : Nat × Nat} (h : V.see b = some (.cells ⟨cs⟩ e f)) {i : Nat} {v : Value} (hv : cs[i]? = some v) :
    V.cell? ⟨b, i, none⟩ = some v := by
  unfold View.cell?
  simp [h, hv]
theorem addr0_add (b i n : Nat) : (⟨b, i, none⟩ : Addr).add n = ⟨b, i + n, none⟩ := addr_add b i n
theorem cellsAt_of_see {V : View} {b : Nat} {cs : List Value} {e : TypeId} {f : Nat × Nat} (h : V.see b = some (.cells ⟨cs⟩ e f)) {i : Nat} {vs : List Value}
    (hv : ∀ j v, vs[j]? = some v → cs[i + j]? = some v) : cellsAt V ⟨b, i, none⟩ vs := fun j v hj => by
  rw [addr0_add]; exact cell_of_see h (hv j v hj)

/-! ### data -/
class Rep (α : Type) where
  sz : Nat
  pos : 0 < sz
  rep : View → List Value → α → Prop
  len : ∀ {V vs x}, rep V vs x → vs.length = sz
  one : ∀ {V vs x}, rep V vs x → vs.all Value.oneCell' = true
  mono : ∀ {V V' vs x}, V.Le V' → rep V vs x → rep V' vs x

/-- A row of data: no element is written by anybody as long as V is seen. -/
structure SlR {α : Type} [Rep α] (V : View) (s : Sl) (l : List α) : Prop where
  n : s.n = l.length
  c : s.n ≤ s.c
  lim : s.n ≤ 9223372036854775807
  get : ∀ i (h : i < l.length), ∃ ad vs, s.a = some ad ∧ cellsAt V (ad.add (i * Rep.sz α)) vs ∧ Rep.rep V vs l[i]
theorem SlR.mono {α : Type} [Rep α] {V V' : View} {s : Sl} {l : List α} (hV : V.Le V') (h : SlR V s l) : SlR V' s l :=
  ⟨h.n, h.c, h.lim, fun i hi => let ⟨ad, vs, ha, hc, hr⟩ := h.get i hi; ⟨ad, vs, ha, cellsAt_mono hV hc, Rep.mono hV hr⟩⟩
theorem SlR.nil {α : Type} [Rep α] (V : View) (a : Option Addr) (c : Nat) : SlR (α := α) V ⟨a, 0, c⟩ [] := ⟨rfl, Nat.zero_le _, Nat.zero_le _, fun _ h => absurd h (by simp)⟩

instance : Rep Int where
  sz := 1
  pos := Nat.one_pos
  rep _ vs x := vs = [.int .i64 x] ∧ inI .i64 x
  len h := by rw [h.1]; rfl
  one h := by rw [h.1]; rfl
  mono _ h := h
instance : Rep Bool where
  sz := 1
  pos := Nat.one_pos
  rep _ vs x := vs = [.bool x]
  len h := by rw [h]; rfl
  one h := by rw [h]; rfl
  mono _ h := h
instance : Rep UInt8 where
  sz := 1
  pos := Nat.one_pos
  rep _ vs x := vs = [.int .u8 x.toNat]
  len h := by rw [h]; rfl
  one h := by rw [h]; rfl
  mono _ h := h
instance : Rep ByteArray where
  sz := 1
  pos := Nat.one_pos
  rep _ vs x := vs = [.string x] ∧ x.size ≤ 9223372036854775807
  len h := by rw [h.1]; rfl
  one h := by rw [h.1]; rfl
  mono _ h := h
instance {α : Type} [Rep α] : Rep (List α) where
  sz := 1
  pos := Nat.one_pos
  rep V vs x := ∃ s : Sl, vs = [.slice s.a s.n s.c] ∧ SlR V s x
  len h := by obtain ⟨s, h, _⟩ := h; rw [h]; rfl
  one h := by obtain ⟨s, h, _⟩ := h; rw [h]; rfl
  mono hV h := let ⟨s, h, k⟩ := h; ⟨s, h, k.mono hV⟩

theorem SlR.ld {α : Type} [Rep α] {V : View} {s : Sl} {l : List α} (h : SlR V s l) {x : Int} (h0 : 0 ≤ x) (h1 : x < s.n) :
    ∃ ad vs, ∃ hx : x.toNat < l.length, s.a = some ad ∧ cellsAt V (ad.add (x.toNat * Rep.sz α)) vs ∧ Rep.rep V vs l[x.toNat] := by
  have hx : x.toNat < l.length := by have := h.n; omega
  obtain ⟨ad, vs, h⟩ := h.get x.toNat hx
  exact ⟨ad, vs, hx, h⟩
theorem SlR.int {V : View} {s : Sl} {l : List Int} (h : SlR V s l) {x : Int} (h0 : 0 ≤ x) (h1 : x < s.n) :
    ∃ ad, ∃ hx : x.toNat < l.length, s.a = some ad ∧ V.cell? (ad.add (x.toNat * 1)) = some (.int .i64 l[x.toNat]) ∧ inI .i64 l[x.toNat] := by
  obtain ⟨ad, vs, hx, ha, hc, rfl, hi⟩ := h.ld h0 h1
  exact ⟨ad, hx, ha, cellsAt_one.1 hc, hi⟩
theorem SlR.bool {V : View} {s : Sl} {l : List Bool} (h : SlR V s l) {x : Int} (h0 : 0 ≤ x) (h1 : x < s.n) :
    ∃ ad, ∃ hx : x.toNat < l.length, s.a = some ad ∧ V.cell? (ad.add (x.toNat * 1)) = some (.bool l[x.toNat]) := by
  obtain ⟨ad, vs, hx, ha, hc, rfl⟩ := h.ld h0 h1
  exact ⟨ad, hx, ha, cellsAt_one.1 hc⟩
theorem SlR.u8 {V : View} {s : Sl} {l : List UInt8} (h : SlR V s l) {x : Int} (h0 : 0 ≤ x) (h1 : x < s.n) :
    ∃ ad, ∃ hx : x.toNat < l.length, s.a = some ad ∧ V.cell? (ad.add (x.toNat * 1)) = some (.int .u8 l[x.toNat].toNat) := by
  obtain ⟨ad, vs, hx, ha, hc, rfl⟩ := h.ld h0 h1
  exact ⟨ad, hx, ha, cellsAt_one.1 hc⟩
theorem SlR.str {V : View} {s : Sl} {l : List ByteArray} (h : SlR V s l) {x : Int} (h0 : 0 ≤ x) (h1 : x < s.n) :
    ∃ ad, ∃ hx : x.toNat < l.length, s.a = some ad ∧ V.cell? (ad.add (x.toNat * 1)) = some (.string l[x.toNat]) ∧ l[x.toNat].size ≤ 9223372036854775807 := by
  obtain ⟨ad, vs, hx, ha, hc, rfl, hi⟩ := h.ld h0 h1
  exact ⟨ad, hx, ha, cellsAt_one.1 hc, hi⟩
/-- A part of a row. -/
theorem SlR.sub {α : Type} [Rep α] {V : View} {s : Sl} {l : List α} (h : SlR V s l) {i j : Nat} (hij : i ≤ j) (hj : j ≤ l.length) :
    SlR V ⟨if s.c = i then s.a else s.a.map fun x => x.add (i * Rep.sz α), j - i, s.c - i⟩ ((l.take j).drop i) := by
  have hn := h.n; have hc := h.c
  refine ⟨by simp; omega, by show j - i ≤ s.c - i; omega, by have := h.lim; show j - i ≤ _; omega, fun k hk => ?_⟩
  have hk' : i + k < l.length := by simp at hk; omega
  obtain ⟨ad, vs, ha, hcs, hr⟩ := h.get (i + k) hk'
  have hne : s.c ≠ i := by simp at hk; omega
  refine ⟨ad.add (i * Rep.sz α), vs, by simp [hne, ha], ?_, ?_⟩
  · rw [Addr.add_add, ← Nat.add_mul]; exact hcs
  · simpa using hr
theorem SlR.take {α : Type} [Rep α] {V : View} {s : Sl} {l : List α} (h : SlR V s l) {j : Nat} (hj : j ≤ l.length) : SlR V ⟨s.a, j, s.c⟩ (l.take j) := by
  have := h.sub (Nat.zero_le j) hj
  simpa [map_add_zero] using this

/-! ### rows that this call made and that grow -/
def View.minus (V : View) (x : Sl) : View := match x.a with
  | none => V
  | some a => V.hide a.block
theorem View.minus_le (V : View) (x : Sl) : (V.minus x).Le V := by
  unfold View.minus; split
  · exact View.Le.refl V
  · exact View.hide_le V _
/-- The row x is the call's own; its cells so far are cs (elements of sz cells). -/
structure Buf (V : View) (x : Sl) (e : TypeId) (sz : Nat) (cs : List Value) : Prop where
  len : cs.length = x.n * sz
  le : x.n ≤ x.c
  lim : x.n ≤ 140737488355328
  own : (x.a = none ∧ x.c = 0) ∨ ∃ r all, x.a = some ⟨r, 0, none⟩ ∧ V.see r = some (.cells ⟨all⟩ e (0, 0)) ∧ all.length = x.c * sz ∧ all.take (x.n * sz) = cs
theorem Buf.nil (V : View) (e : TypeId) (sz : Nat) : Buf V ⟨none, 0, 0⟩ e sz [] := ⟨by simp, Nat.le_refl _, Nat.zero_le _, .inl ⟨rfl, rfl⟩⟩
theorem Buf.mono {V V' : View} {x : Sl} {e : TypeId} {sz : Nat} {cs : List Value} (h : Buf V x e sz cs) (hV : V.Le V') : Buf V' x e sz cs :=
  ⟨h.len, h.le, h.lim, h.own.imp id fun ⟨r, all, a, b, c⟩ => ⟨r, all, a, hV.see _ _ b, c⟩⟩
theorem minus_mono {V V' : View} (h : V.Le V') (x : Sl) : (V.minus x).Le (V'.minus x) := by
  unfold View.minus; split
  · exact h
  · refine ⟨h.size, fun i o ho => ?_, h.out⟩
    unfold View.hide at *
    simp only at *
    split at ho
    · cases ho
    · rename_i hne; rw [if_neg hne]; exact h.see i o ho
theorem Buf.row {V : View} {x : Sl} {e : TypeId} {sz : Nat} {cs : List Value} (h : Buf V x e sz cs) : rowAt V x.a (x.n * sz) cs := by
  rcases h.own with ⟨ha, hc⟩ | ⟨r, all, ha, hs, hl, ht⟩
  · have h0 : x.n = 0 := by have := h.le; omega
    rw [ha]
    show cs = []
    have := h.len
    rw [h0] at this
    simpa using this
  · rw [ha]
    refine ⟨h.len, fun j v hj => ?_⟩
    rw [addr0_add]
    refine cell_of_see hs ?_
    rw [← ht] at hj
    rw [List.getElem?_take] at hj
    split at hj
    · simpa using hj
    · cases hj
theorem putL_eq : ∀ (vs cs : List Value) (off : Nat), off + vs.length ≤ cs.length → putL cs off vs = cs.take off ++ vs ++ cs.drop (off + vs.length)
  | [], cs, off, _ => by simp [putL]
  | v :: vs, cs, off, h => by
    simp only [List.length_cons] at h
    rw [putL, putL_eq vs _ _ (by simp; omega)]
    rw [List.drop_set_of_lt (by omega), List.take_add_one, List.getElem?_set_self (by omega), List.take_set, List.set_eq_of_length_le (by simp; omega)]
    simp [Nat.add_assoc, Nat.add_comm 1]
theorem setObj_cells (e : TypeId) (f : Nat × Nat) (vs cs : List Value) (off : Nat) : setObj (.cells ⟨cs⟩ e f) off vs = .cells ⟨putL cs off vs⟩ e f := putL_setObj e f vs cs off
theorem sets_see {V : View} {r off : Nat} {cs vs : List Value} {e : TypeId} {f : Nat × Nat} (h : V.see r = some (.cells ⟨cs⟩ e f)) : V.sets ⟨r, off, none⟩ vs = V.put r (.cells ⟨putL cs off vs⟩ e f) := by
  unfold View.sets
  simp only [h, setObj_cells]
theorem canSet_of {V : View} {r off k : Nat} {cs : List Value} {e : TypeId} (h : V.see r = some (.cells ⟨cs⟩ e (0, 0))) (hk : off + k ≤ cs.length) : canSet V ⟨r, off, none⟩ k :=
  ⟨rfl, ⟨cs⟩, e, (0, 0), h, by simpa using hk, fun j _ hf => by simp at hf⟩
theorem hide_le_put_hide {V : View} (r : Nat) (o : Obj) : (V.hide r).Le ((V.put r o).hide r) :=
  ⟨Nat.le_max_left _ _, fun i o' h => by
    unfold View.hide at *
    simp only at *
    split at h
    · cases h
    · rename_i hne; rw [if_neg hne, View.see_put_ne V o hne]; exact h, rfl⟩
/-- What is appended stands behind; all else is as it was. -/
theorem apV_buf {V : View} {e : TypeId} {sz bytes : Nat} {zero : List Value} {x : Sl} {y : Value} {C : Sl → View → Prop} {cs src : List Value} {m : Nat} (hz : zero.length = sz)
    (hb : Buf V x e sz cs) (hs : srcAt V sz zero y m src) (hl : src.length = m * sz) (h1 : src.all Value.oneCell' = true) (hm : (x.n + m) * bytes ≤ 140737488355328) (hm2 : x.n + m ≤ 140737488355328)
    (hC : ∀ s V', Buf V' s e sz (cs ++ src) → s.n = x.n + m → (V.minus x).Le (V'.minus s) → C s V') : apV V e sz bytes zero x y C := by
  refine ⟨cs, src, m, hb.row, hs, h1, hm, hm2, fun hle => ?_, fun hlt r cap hr hcap => ?_⟩
  · rcases hb.own with ⟨ha, hc⟩ | ⟨r, all, ha, hsee, hal, htk⟩
    · rw [ha]
      have hn0 : x.n = 0 := by have := hb.le; omega
      have hm0 : m = 0 := by omega
      have e1 : src = [] := by rw [← List.length_eq_zero_iff, hl, hm0]; simp
      have e2 : cs = [] := by rw [← List.length_eq_zero_iff, hb.len, hn0]; simp
      refine hC _ _ ⟨by simp [e1, e2, hn0, hm0], by show x.n + m ≤ x.c; omega, hm2, .inl ⟨rfl, hc⟩⟩ rfl ?_
      unfold View.minus; rw [ha]; exact View.Le.refl V
    · rw [ha]
      have hfit : x.n * sz + src.length ≤ all.length := by rw [hl, hal, ← Nat.add_mul]; exact Nat.mul_le_mul_right _ hle
      have e0 : (⟨r, 0, none⟩ : Addr).add (x.n * sz) = ⟨r, x.n * sz, none⟩ := by rw [addr0_add]; simp
      show canSet V ((⟨r, 0, none⟩ : Addr).add (x.n * sz)) src.length ∧ C ⟨some ⟨r, 0, none⟩, x.n + m, x.c⟩ (V.sets ((⟨r, 0, none⟩ : Addr).add (x.n * sz)) src)
      rw [e0]
      refine ⟨canSet_of hsee hfit, ?_⟩
      rw [sets_see hsee, putL_eq _ _ _ hfit]
      refine hC _ _ ⟨by simp [hb.len, hl, Nat.add_mul], by show x.n + m ≤ x.c; omega, hm2, .inr ⟨r, _, rfl, View.see_put_same _ _ _, ?_, ?_⟩⟩ rfl ?_
      · simp only [List.length_append, List.length_take, List.length_drop]; omega
      · rw [htk]
        rw [List.take_append_of_le_length (by simp [hb.len, hl, Nat.add_mul])]
        rw [List.take_of_length_le (by simp [hb.len, hl, Nat.add_mul])]
      · unfold View.minus
        rw [ha]
        exact hide_le_put_hide r _
  · have hfr : V.see r = none := View.see_none_of_ge hr
    refine hC _ _ ⟨by simp [hb.len, hl, Nat.add_mul], hcap, hm2, .inr ⟨r, _, rfl, View.see_put_same _ _ _, ?_, ?_⟩⟩ rfl ?_
    · simp [hb.len, hl, hz, List.length_flatten, Nat.sub_mul, Nat.add_mul]
      have := Nat.mul_le_mul_right sz hcap
      rw [Nat.add_mul] at this
      omega
    · rw [List.take_append_of_le_length (by simp [hb.len, hl, Nat.add_mul])]
      rw [List.take_of_length_le (by simp [hb.len, hl, Nat.add_mul])]
    · have h2 : V.Le ((V.put r (.cells (cs ++ src ++ (List.replicate (cap - (x.n + m)) zero).flatten).toArray e (0, 0))).hide r) :=
        ⟨Nat.le_max_left _ _, fun i o ho => by
          have hne : i ≠ r := fun h => by rw [h, hfr] at ho; cases ho
          show (if i = r then none else View.see (V.put r _) i) = some o
          rw [if_neg hne, View.see_put_ne V _ hne]; exact ho, rfl⟩
      exact (View.minus_le V x).trans h2
/-- Cells of a row of data. -/
def repL {α : Type} [Rep α] (W : View) : List Value → List α → Prop
  | cs, [] => cs = []
  | cs, x :: l => ∃ vs us, cs = vs ++ us ∧ Rep.rep W vs x ∧ repL W us l
theorem repL.mono {α : Type} [Rep α] {W W' : View} (h : W.Le W') : ∀ {cs : List Value} {l : List α}, repL W cs l → repL W' cs l
  | _, [], hr => hr
  | _, _ :: _, ⟨vs, us, e, h1, h2⟩ => ⟨vs, us, e, Rep.mono h h1, repL.mono h h2⟩
theorem repL.snoc {α : Type} [Rep α] {W : View} : ∀ {cs : List Value} {l : List α} {vs : List Value} {x : α}, repL W cs l → Rep.rep W vs x → repL W (cs ++ vs) (l ++ [x])
  | _, [], vs, x, h, hx => by cases h; exact ⟨vs, [], by simp, hx, rfl⟩
  | _, y :: l, vs, x, ⟨ws, us, e, h1, h2⟩, hx => ⟨ws, us ++ vs, by rw [e, List.append_assoc], h1, repL.snoc h2 hx⟩
theorem repL.append {α : Type} [Rep α] {W : View} : ∀ {cs ds : List Value} {l m : List α}, repL W cs l → repL W ds m → repL W (cs ++ ds) (l ++ m)
  | _, _, [], m, h, hm => by cases h; simpa using hm
  | _, _, y :: l, m, ⟨ws, us, e, h1, h2⟩, hx => ⟨ws, us ++ _, by rw [e, List.append_assoc], h1, repL.append h2 hx⟩
theorem repL.len {α : Type} [Rep α] {W : View} : ∀ {cs : List Value} {l : List α}, repL W cs l → cs.length = l.length * Rep.sz α
  | _, [], h => by cases h; simp
  | _, _ :: _, ⟨vs, us, e, h1, h2⟩ => by rw [e, List.length_append, Rep.len h1, repL.len h2, List.length_cons, Nat.add_mul]; omega
theorem repL.one {α : Type} [Rep α] {W : View} : ∀ {cs : List Value} {l : List α}, repL W cs l → cs.all Value.oneCell' = true
  | _, [], h => by cases h; rfl
  | _, _ :: _, ⟨vs, us, e, h1, h2⟩ => by rw [e, List.all_append, Rep.one h1, repL.one h2]; rfl
theorem repL.get {α : Type} [Rep α] {W : View} : ∀ {cs : List Value} {l : List α}, repL W cs l → ∀ i (h : i < l.length), ∃ vs, Rep.rep W vs l[i] ∧ ∀ j v, vs[j]? = some v → cs[i * Rep.sz α + j]? = some v
  | _, [], _, i, h => absurd h (by simp)
  | _, x :: l, ⟨vs, us, e, h1, h2⟩, 0, _ => ⟨vs, h1, fun j v hj => by
      rw [e, Nat.zero_mul, Nat.zero_add, List.getElem?_append_left (List.getElem?_eq_some_iff.1 hj).1]; exact hj⟩
  | _, x :: l, ⟨vs, us, e, h1, h2⟩, i + 1, h => by
    obtain ⟨ws, hr, hg⟩ := repL.get h2 i (by simpa using h)
    refine ⟨ws, hr, fun j v hj => ?_⟩
    rw [e, List.getElem?_append_right (by rw [Rep.len h1, Nat.add_mul]; omega), Rep.len h1, Nat.add_mul]
    rw [show i * Rep.sz α + 1 * Rep.sz α + j - Rep.sz α = i * Rep.sz α + j by omega]
    exact hg j v hj
theorem Buf.slR {α : Type} [Rep α] {W V : View} {x : Sl} {e : TypeId} {cs : List Value} {l : List α} (h : Buf V x e (Rep.sz α) cs) (hr : repL W cs l) (hW : W.Le V) : SlR V x l := by
  have hn : x.n = l.length := Nat.eq_of_mul_eq_mul_right (Rep.pos (α := α)) (h.len.symm.trans hr.len)
  refine ⟨hn, h.le, Nat.le_trans h.lim (by decide), fun i hi => ?_⟩
  obtain ⟨vs, hv, hg⟩ := hr.get i hi
  rcases h.own with ⟨ha, hc⟩ | ⟨r, all, ha, hs, hl, ht⟩
  · have := h.le; omega
  · refine ⟨_, vs, ha, ?_, Rep.mono hW hv⟩
    rw [addr0_add]
    refine cellsAt_of_see hs fun j v hj => ?_
    have := hg j v hj
    rw [← ht, List.getElem?_take] at this
    split at this
    · simpa using this
    · cases this
/-- The cells of a row of data, read. -/
theorem SlR.row {α : Type} [Rep α] {V : View} {s : Sl} {l : List α} (h : SlR V s l) : ∃ cs, rowAt V s.a (s.n * Rep.sz α) cs ∧ repL V cs l := by
  have hn := h.n; have hg := h.get
  suffices key : ∀ (k : Nat), k ≤ l.length → ∃ cs, repL V cs (l.take k) ∧ (∀ ad, s.a = some ad → cellsAt V ad cs) from by
    obtain ⟨cs, h1, h2⟩ := key l.length (Nat.le_refl _)
    rw [List.take_length] at h1
    refine ⟨cs, ?_, h1⟩
    cases ha : s.a with
    | none =>
      show cs = []
      cases l with
      | nil => exact h1
      | cons x l => obtain ⟨ad, _, h', _⟩ := hg 0 (by simp); rw [ha] at h'; cases h'
    | some ad => exact ⟨by rw [h1.len, hn], h2 ad ha⟩
  intro k
  induction k with
  | zero => intro _; exact ⟨[], by simp [repL], fun ad _ j v hj => by simp at hj⟩
  | succ k ih =>
    intro hk
    obtain ⟨cs, h1, h2⟩ := ih (by omega)
    obtain ⟨ad, vs, ha, hc, hr⟩ := hg k (by omega)
    refine ⟨cs ++ vs, ?_, fun ad' ha' => ?_⟩
    · rw [List.take_add_one, List.getElem?_eq_getElem (by omega)]
      exact h1.snoc hr
    · rw [ha] at ha'; cases ha'
      refine cellsAt_append.2 ⟨h2 ad ha, ?_⟩
      rw [h1.len, List.length_take, Nat.min_eq_left (by omega)]
      exact hc
end Go.Proofs.YtgkmcnafkhdlnaaGreat
/- From a call over views to a row; how arguments are read. -/
namespace Go.Proofs.YtgkmcnafkhdlnaaGreat
open Go Go.RowKit Go.ChangeShapes Go.WideShapes

theorem own : ownKnob Tryz.prog.godebug = none := by kernel_rfl
theorem laidOut : laidOutB Tryz.prog = true := by kernel_rfl
theorem rowed : mapsRowed Tryz.prog = true := by kernel_rfl

section
variable {H : Type} {enc : TypeId × Value → H} {P : Program}
/-- The world is as it was, but for what is new. -/
theorem below_of_le {W W' : World} {V' : View} (h : V'.In W') (hl : (View.all W).Le V') : Below W.heap.size W W' := by
  have ho : World.outer W' = World.outer W := h.out.trans hl.out
  unfold World.outer at ho
  simp only [Prod.mk.injEq] at ho
  refine ⟨ho.1, ho.2.1, ho.2.2, Nat.le_trans hl.size h.size, fun k hk => ?_⟩
  have h1 : W.heap[k]? = some W.heap[k] := Array.getElem?_eq_getElem hk
  rw [h1]
  exact h.see k _ (hl.see k _ h1)
theorem same_of_below {W W' : World} (hb : Below W.heap.size W W') : ∀ p : MemPlace, p.block < W.heap.size → W.sameAt W' p := by
  intro p hp
  cases p with
  | cell b off =>
    have := hb.block b hp
    show W'.cell? _ = W.cell? _
    unfold World.cell?
    simp only [this]
  | map b => exact hb.block b hp
theorem trodAll_stays {t0 : TypeId → Prop} (K : Kids P t0) (hsz : ∀ {t e : TypeId}, t0 t → P.underlying t = some (.slice e) → 0 < P.cellsOf e) {W W' : World} (hb : Below W.heap.size W W') :
    ∀ {ts : List TypeId} {vs : List Value} {ds : List (DataW H)} {ps : List MemPlace}, (∀ t ∈ ts, t0 t) → DataW.TrodAll enc P W 0 (fun _ => true) true ts vs ds ps →
      DataW.TrodAll enc P W' 0 (fun b => decide (b < W.heap.size)) true ts vs ds ps
  | [], [], [], _, _, h => h
  | t :: ts, v :: vs, d :: ds, ps, ht, ⟨p, q, ⟨fuel, h1⟩, h2, e⟩ => by
    refine ⟨p, q, ⟨fuel, ?_⟩, trodAll_stays K hsz hb (fun t h => ht t (by simp [h])) h2, e⟩
    have hlt := DataW.trod_lt fuel t v.cells.toList _ h1
    exact DataW.trod_stays K hsz (fun h => by cases h) (ht t (by simp)) h1 (fun p hp => same_of_below hb p (hlt p hp)) (fun p hp => by simpa using hlt p hp)
/-- A call that answers true and changes nothing is what the row asks. -/
theorem post_true {f : Func} {s : ChangeSpec} {apart fresh handsOn : Bool} {t0 : TypeId → Prop} (K : Kids P t0) (hsz : ∀ {t e : TypeId}, t0 t → P.underlying t = some (.slice e) → 0 < P.cellsOf e) {W : World} {args : Array Value} {ds gs : List (DataW H)} {before : List MemPlace} {tb : TypeId}
    (hv : s.vars = []) (hr : f.resultTypes = #[tb]) (hb : P.underlying tb = some .bool) (hts : ∀ t ∈ f.params.toList, t0 t)
    (hW : DataW.Whole enc P f.params.toList s.vars apart W args.toList ds gs before) (hs : s.fn H (ds ++ gs) = { results := [.lit (.bool true)], args := ds })
    {F : FuncId} (hc : CallV P F args (View.all W) fun r V' => r = .bool true ∧ (View.all W).Le V') :
    Calls P F args W fun e W' => ∃ v, e = .returned v ∧ s.post enc P f apart fresh handsOn false W args v W' := by
  refine (hc.2 W (View.all_in W)).mono ?_
  rintro e W' ⟨r, V', rfl, hin, _, rfl, hle⟩
  have hbl := below_of_le hin hle
  obtain ⟨p, q, hA, hV, rfl, hfz, hnd⟩ := hW
  have hq : gs = [] ∧ q = [] := by
    rw [hv] at hV
    cases gs with
    | nil => exact ⟨rfl, hV⟩
    | cons g r => exact absurd hV (by intro h; cases h)
  obtain ⟨rfl, rfl⟩ := hq
  refine ⟨_, rfl, ds, [], p ++ [], [], p, [], ⟨p, [], hA, hV, rfl, hfz, hnd⟩, ?_, ?_, ?_, hbl.frame _, fun h => by cases h⟩
  · rw [hs, hr]; exact trodAll_mk1 (shut_bool hb true)
  · rw [hs]; exact trodAll_stays K hsz hbl hts hA
  · rw [hs, hv]; rfl
theorem params_lt {f : Func} (h : (f.params.toList.all fun t => decide (t < P.types.size)) = true) : ∀ t ∈ f.params.toList, t < P.types.size := fun t ht => by
  simpa using List.all_eq_true.1 h t ht
end
end Go.Proofs.YtgkmcnafkhdlnaaGreat
/- Trees as plain data; how they lie in a view, and in what comes in. -/
namespace Go.Proofs.YtgkmcnafkhdlnaaGreat
open Go
structure Ent where
  name : ByteArray
  node : Int
  deriving DecidableEq
structure Nod where
  kind : Int
  links : Int
  size : Int
  seqs : List Int
  ents : List Ent
  deriving DecidableEq
def Nod.zero : Nod := ⟨0, 0, 0, [], []⟩
instance : Inhabited Ent := ⟨⟨⟨#[]⟩, 0⟩⟩
instance : Inhabited Nod := ⟨Nod.zero⟩
structure Rf where
  page : Int
  seq : Int
  deriving DecidableEq
instance : Rep Ent where
  sz := 2
  pos := by decide
  rep _ vs x := vs = [.string x.name, .int .i64 x.node] ∧ x.name.size ≤ 9223372036854775807 ∧ inI .i64 x.node
  len h := by rw [h.1]; rfl
  one h := by rw [h.1]; rfl
  mono _ h := h
instance : Rep Rf where
  sz := 2
  pos := by decide
  rep _ vs x := vs = [.int .i64 x.page, .int .i64 x.seq] ∧ inI .i64 x.page ∧ inI .i64 x.seq
  len h := by rw [h.1]; rfl
  one h := by rw [h.1]; rfl
  mono _ h := h
instance : Rep Nod where
  sz := 5
  pos := by decide
  rep V vs x := ∃ s e : Sl, vs = [.int .i64 x.kind, .int .i64 x.links, .int .i64 x.size, .slice s.a s.n s.c, .slice e.a e.n e.c] ∧ inI .i64 x.kind ∧ inI .i64 x.links ∧ inI .i64 x.size ∧ SlR V s x.seqs ∧ SlR V e x.ents
  len h := by obtain ⟨s, e, h, _⟩ := h; rw [h]; rfl
  one h := by obtain ⟨s, e, h, _⟩ := h; rw [h]; rfl
  mono hV h := let ⟨s, e, h, a, b, c, d, f⟩ := h; ⟨s, e, h, a, b, c, d.mono hV, f.mono hV⟩
theorem SlR.ent {V : View} {s : Sl} {l : List Ent} (h : SlR V s l) {x : Int} (h0 : 0 ≤ x) (h1 : x < s.n) :
    ∃ ad, ∃ hx : x.toNat < l.length, s.a = some ad ∧ cellsAt V (ad.add (x.toNat * 2)) [.string l[x.toNat].name, .int .i64 l[x.toNat].node] ∧ l[x.toNat].name.size ≤ 9223372036854775807 ∧ inI .i64 l[x.toNat].node := by
  obtain ⟨ad, vs, hx, ha, hc, rfl, hi⟩ := h.ld h0 h1
  exact ⟨ad, hx, ha, hc, hi⟩
theorem SlR.rf {V : View} {s : Sl} {l : List Rf} (h : SlR V s l) {x : Int} (h0 : 0 ≤ x) (h1 : x < s.n) :
    ∃ ad, ∃ hx : x.toNat < l.length, s.a = some ad ∧ cellsAt V (ad.add (x.toNat * 2)) [.int .i64 l[x.toNat].page, .int .i64 l[x.toNat].seq] ∧ inI .i64 l[x.toNat].page ∧ inI .i64 l[x.toNat].seq := by
  obtain ⟨ad, vs, hx, ha, hc, rfl, hi⟩ := h.ld h0 h1
  exact ⟨ad, hx, ha, hc, hi⟩
/-- A node's cells: two rows besides three numbers. -/
structure NodR (V : View) (s e : Sl) (x : Nod) : Prop where
  kind : inI .i64 x.kind
  links : inI .i64 x.links
  size : inI .i64 x.size
  seqs : SlR V s x.seqs
  ents : SlR V e x.ents
theorem NodR.mono {V V' : View} {s e : Sl} {x : Nod} (hV : V.Le V') (h : NodR V s e x) : NodR V' s e x := ⟨h.kind, h.links, h.size, h.seqs.mono hV, h.ents.mono hV⟩
theorem NodR.rep {V : View} {s e : Sl} {x : Nod} (h : NodR V s e x) : Rep.rep V [.int .i64 x.kind, .int .i64 x.links, .int .i64 x.size, .slice s.a s.n s.c, .slice e.a e.n e.c] x := ⟨s, e, rfl, h.kind, h.links, h.size, h.seqs, h.ents⟩
/-! ### what comes in -/
section
variable {H : Type} {enc : TypeId × Value → H} {P : Program} {w : World} {base : Nat} {sp : Nat → Bool} {held : Bool}
/-- Data of this type that come in are such data. -/
class TrodRep (P : Program) (α : Type) [Rep α] (t : TypeId) : Prop where
  of : ∀ {H : Type} {enc : TypeId × Value → H} {w : World} {base : Nat} {sp : Nat → Bool} {held : Bool} {fuel : Nat} {cs : List Value} {x : DataW H × List MemPlace}, DataW.trod enc P w base sp held fuel t cs = some x → ∃ d : α, Rep.rep (View.all w) cs d
theorem wf_int {k : IntKind} {n : Int} (h : (Lit.int k n).wf = true) : inI k n := by
  simpa [Lit.wf, inI] using h
theorem trodRep_int {t : TypeId} (ht : P.underlying t = some (.int .i64)) : TrodRep P Int t := ⟨fun h => by
  obtain ⟨n, hc, _, hw⟩ := DataW.trod_int ht h
  exact ⟨n, hc, wf_int hw⟩⟩
theorem trodRep_u8 {t : TypeId} (ht : P.underlying t = some (.int .u8)) : TrodRep P UInt8 t := ⟨fun h => by
  obtain ⟨n, hc, _, hw⟩ := DataW.trod_int ht h
  have h2 : 0 ≤ n ∧ n ≤ 255 := by simpa [Lit.wf, IntKind.min, IntKind.max, IntKind.signed, IntKind.bits] using hw
  refine ⟨UInt8.ofNat n.toNat, ?_⟩
  show _ = [Value.int .u8 (UInt8.ofNat n.toNat).toNat]
  rw [hc, UInt8.toNat_ofNat']
  congr 2
  omega⟩
theorem cells_all {w : World} {b : Nat} {a : Addr} {n : Nat} {cs : List Value} (h : w.cells? b a n = some cs) : cs.length = n ∧ cellsAt (View.all w) a cs := by
  obtain ⟨_, hl, hc⟩ := World.cells?_some h
  refine ⟨hl, fun j v hj => ?_⟩
  have hjn : j < n := by rw [← hl]; exact (List.getElem?_eq_some_iff.1 hj).1
  have := hc j hjn
  rw [hj] at this
  exact this
theorem trodRep_slice {α : Type} [Rep α] {t e : TypeId} (ht : P.underlying t = some (.slice e)) (hs : P.cellsOf e = Rep.sz α) (he : TrodRep P α e) : TrodRep P (List α) t := ⟨fun {H enc w base sp held fuel cs x} h => by
  rcases DataW.trod_slice ht h with ⟨rfl, _⟩ | ⟨a, len, cap, elems, rest, n, _, rfl, _, _, hlc, hcm, hel, hget, _, _⟩
  · exact ⟨[], ⟨none, 0, 0⟩, rfl, SlR.nil _ _ _⟩
  have hex : ∀ i : Fin len, ∃ d : α, ∃ vs, cellsAt (View.all w) (a.add (i.val * Rep.sz α)) vs ∧ Rep.rep (View.all w) vs d := by
    intro i
    have := hget i.val i.isLt
    rw [List.getElem?_eq_getElem (by rw [hel]; exact i.isLt), Option.bind_eq_some_iff] at this
    obtain ⟨cs, hc, hy⟩ := this
    obtain ⟨d, hd⟩ := he.of hy
    rw [hs] at hc
    exact ⟨d, cs, (cells_all hc).2, hd⟩
  refine ⟨List.ofFn fun i => Classical.choose (hex i), ⟨some a, len, cap⟩, rfl, by simp, hlc, ?_, fun i hi => ?_⟩
  · have : cap ≤ 9223372036854775807 := hcm
    show len ≤ _; omega
  · have hi' : i < len := by simpa using hi
    obtain ⟨vs, h1, h2⟩ := Classical.choose_spec (hex ⟨i, hi'⟩)
    exact ⟨a, vs, rfl, h1, by rw [List.getElem_ofFn]; exact h2⟩⟩
theorem trod_field {t : TypeId} {i o : Nat} {ft : TypeId} {fuel : Nat} {cs : List Value} {x : DataW H × List MemPlace} (hf : fieldX P t i = some (o, ft)) (h : DataW.trod enc P w base sp held fuel t cs = some x) :
    cs.length = P.cellsOf t ∧ ∃ n y, DataW.trod enc P w base sp held n ft ((cs.drop o).take (P.cellsOf ft)) = some y := by
  obtain ⟨fs, fd, hu, hfd, rfl, rfl⟩ := fieldX_spec hf
  obtain ⟨xs, n, _, _, hl, hxl, hget⟩ := DataW.trod_struct hu h
  have := hget i fd hfd
  have hi : i < xs.length := by rw [hxl]; exact (Array.getElem?_eq_some_iff.1 hfd).1
  rw [List.getElem?_eq_getElem hi] at this
  exact ⟨hl, n, _, this⟩
end
/-! ### this program's types -/
theorem bytesIn : TrodRep Tryz.prog (List UInt8) 24 := trodRep_slice (e := 5) Tryz.underlying24 (by kernel_rfl) (trodRep_u8 Tryz.underlying5)
end Go.Proofs.YtgkmcnafkhdlnaaGreat
/- Numbers and texts as bytes: plain functions and what they answer. No program in this text. -/
namespace Go.Proofs.YtgkmcnafkhdlnaaGreat
/-- The digits of a number ahead of its last one, the greatest first. -/
def hiL : Nat → Nat → List UInt8
  | 0, _ => []
  | f + 1, n => if n = 0 then [] else hiL f (n / 128) ++ [UInt8.ofNat (n % 128 + 128)]
/-- A number as bytes. -/
def numL (n : Nat) : List UInt8 := hiL 6 (n / 128) ++ [UInt8.ofNat (n % 128)]
/-- What is laid for a number that is handed in. -/
def clampN (n : Int) : Nat := (min (max n 0) 1099511627776).toNat
def numI (n : Int) : List UInt8 := numL (clampN n)
/-- A number in front, and what is behind it. -/
def numGo (most : Nat) : Nat → Nat → List UInt8 → Option (Nat × List UInt8)
  | 0, _, _ => none
  | _, _, [] => none
  | f + 1, m, c :: b => if 128 ≤ c.toNat then numGo most f (m * 128 + c.toNat % 128) b else if most < m * 128 + c.toNat % 128 then none else some (m * 128 + c.toNat % 128, b)
theorem numGo_cons (most f m : Nat) (c : UInt8) (b : List UInt8) : numGo most (f + 1) m (c :: b) = if 128 ≤ c.toNat then numGo most f (m * 128 + c.toNat % 128) b else if most < m * 128 + c.toNat % 128 then none else some (m * 128 + c.toNat % 128, b) := rfl
def numP (most : Nat) (b : List UInt8) : Option (Nat × List UInt8) :=
  match b with
  | [] => none
  | c :: r => if c.toNat = 128 then none else numGo most 6 0 (c :: r)
theorem hiL_len : ∀ (f n : Nat), (hiL f n).length ≤ f
  | 0, _ => Nat.le_refl _
  | f + 1, n => by
    unfold hiL
    split
    · simp
    · have := hiL_len f (n / 128)
      simp; omega
theorem hiL_bound : ∀ (f n : Nat), n < 128 ^ f → hiL f n = hiL (f + 1) n
  | 0, n, h => by
    have : n = 0 := by simpa using h
    subst this; rfl
  | f + 1, n, h => by
    by_cases h0 : n = 0
    · subst h0; rfl
    · rw [hiL, hiL, if_neg h0, if_neg h0, hiL_bound f (n / 128) (Nat.div_lt_of_lt_mul (by rw [Nat.pow_succ] at h; omega))]
theorem toNat_ofNat_lt {n : Nat} (h : n < 256) : (UInt8.ofNat n).toNat = n := by rw [UInt8.toNat_ofNat']; omega
/-- Reading goes through the digits ahead. -/
theorem numGo_hi (most : Nat) : ∀ (f n : Nat) (g m : Nat) (r : List UInt8), n < 128 ^ f → (hiL f n).length ≤ g →
    numGo most g m (hiL f n ++ r) = numGo most (g - (hiL f n).length) (m * 128 ^ (hiL f n).length + n) r
  | 0, n, g, m, r, h, _ => by
    have : n = 0 := by simpa using h
    subst this
    simp [hiL]
  | f + 1, n, g, m, r, h, hg => by
    by_cases h0 : n = 0
    · subst h0; simp [hiL]
    · have hd : n / 128 < 128 ^ f := Nat.div_lt_of_lt_mul (by rw [Nat.pow_succ] at h; omega)
      have e : hiL (f + 1) n = hiL f (n / 128) ++ [UInt8.ofNat (n % 128 + 128)] := by rw [hiL, if_neg h0]
      rw [e] at hg ⊢
      simp only [List.length_append, List.length_cons, List.length_nil, Nat.zero_add] at hg ⊢
      rw [List.append_assoc, numGo_hi most f (n / 128) g m _ hd (by omega)]
      obtain ⟨k, hk⟩ : ∃ k, g - (hiL f (n / 128)).length = k + 1 := ⟨g - (hiL f (n / 128)).length - 1, by omega⟩
      rw [hk, List.singleton_append, numGo_cons]
      have h1 : (UInt8.ofNat (n % 128 + 128)).toNat = n % 128 + 128 := toNat_ofNat_lt (by omega)
      have e3 : (m * 128 ^ (hiL f (n / 128)).length + n / 128) * 128 + (n % 128 + 128) % 128 = m * 128 ^ ((hiL f (n / 128)).length + 1) + n := by
        rw [Nat.pow_succ, ← Nat.mul_assoc, Nat.add_mul]
        omega
      rw [h1, if_pos (by omega), show g - ((hiL f (n / 128)).length + 1) = k by omega, e3]
theorem hiL_head : ∀ (f n : Nat), n < 128 ^ f → ∀ c r, hiL f n = c :: r → 128 < c.toNat
  | 0, n, _, c, r, e => by simp [hiL] at e
  | f + 1, n, h, c, r, e => by
    unfold hiL at e
    split at e
    · simp at e
    · rename_i h0
      have hd : n / 128 < 128 ^ f := Nat.div_lt_of_lt_mul (by rw [Nat.pow_succ] at h; omega)
      cases hh : hiL f (n / 128) with
      | nil =>
        rw [hh] at e
        simp only [List.nil_append, List.cons.injEq] at e
        have hz : n / 128 = 0 := by
          cases f with
          | zero => simpa using hd
          | succ f =>
            apply Classical.byContradiction
            intro hne
            rw [hiL, if_neg hne] at hh
            simp at hh
        rw [← e.1, toNat_ofNat_lt (by omega)]
        omega
      | cons d s =>
        rw [hh] at e
        simp only [List.cons_append, List.cons.injEq] at e
        rw [← e.1]
        exact hiL_head f _ hd d s hh
theorem num_lt {n : Nat} (h : n ≤ 1099511627776) : n / 128 < 128 ^ 5 := by
  have : (128 : Nat) ^ 5 = 34359738368 := by decide
  omega
theorem hi_len5 {n : Nat} (h : n ≤ 1099511627776) : (hiL 6 (n / 128)).length ≤ 5 := by
  rw [← hiL_bound 5 _ (num_lt h)]
  exact hiL_len 5 _
/-- What is laid is read as it was. -/
theorem numP_numL {n most : Nat} (h : n ≤ 1099511627776) (hm : n ≤ most) (r : List UInt8) : numP most (numL n ++ r) = some (n, r) := by
  have hb : n / 128 < 128 ^ 6 := Nat.lt_of_lt_of_le (num_lt h) (Nat.pow_le_pow_right (by decide) (by decide))
  have hgo : numGo most 6 0 (numL n ++ r) = some (n, r) := by
    unfold numL
    rw [List.append_assoc, numGo_hi most 6 (n / 128) 6 0 _ hb (by have := hi_len5 h; omega)]
    obtain ⟨k, hk⟩ : ∃ k, 6 - (hiL 6 (n / 128)).length = k + 1 := ⟨6 - (hiL 6 (n / 128)).length - 1, by have := hi_len5 h; omega⟩
    rw [hk, List.singleton_append, Nat.zero_mul, Nat.zero_add, numGo_cons]
    rw [toNat_ofNat_lt (by omega), if_neg (by omega), Nat.mod_mod, Nat.mul_comm, Nat.div_add_mod, if_neg (by omega)]
  unfold numP
  cases hc : numL n ++ r with
  | nil => unfold numL at hc; simp at hc
  | cons c s =>
    rw [← hc]
    simp only [hc]
    rw [if_neg, ← hc, hgo]
    unfold numL at hc
    cases hh : hiL 6 (n / 128) with
    | nil =>
      rw [hh] at hc
      simp only [List.nil_append, List.cons_append, List.cons.injEq] at hc
      rw [← hc.1, toNat_ofNat_lt (by omega)]
      omega
    | cons d t =>
      rw [hh] at hc
      simp only [List.cons_append, List.cons.injEq] at hc
      have := hiL_head 6 _ hb d t hh
      rw [← hc.1]
      omega
/-- What is read was laid so. -/
theorem numGo_inv (most : Nat) : ∀ (g m : Nat) (b : List UInt8) (n : Nat) (r : List UInt8), numGo most g m b = some (n, r) →
    n ≤ most ∧ ∃ ds : List UInt8, ∃ c : UInt8, b = ds ++ c :: r ∧ c.toNat < 128 ∧ ds.length < g ∧ (∀ d ∈ ds, 128 ≤ d.toNat) ∧ n = (ds.foldl (fun a d => a * 128 + d.toNat % 128) m) * 128 + c.toNat
  | 0, m, b, n, r, h => by simp [numGo] at h
  | g + 1, m, [], n, r, h => by simp [numGo] at h
  | g + 1, m, c :: b, n, r, h => by
    rw [numGo_cons] at h
    split at h
    · rename_i hc
      obtain ⟨h1, ds, c', h2, h3, h4, h5, h6⟩ := numGo_inv most g _ b n r h
      refine ⟨h1, c :: ds, c', by rw [h2]; rfl, h3, by simp; omega, fun d hd => ?_, h6⟩
      rcases List.mem_cons.1 hd with rfl | hd
      · exact hc
      · exact h5 d hd
    · rename_i hc
      split at h
      · cases h
      · rename_i hm
        cases h
        exact ⟨by omega, [], c, rfl, by omega, by simp, by simp, by simp; omega⟩
theorem fold_hi : ∀ (f : Nat) (ds : List UInt8), ds.length ≤ f → (∀ d ∈ ds, 128 ≤ d.toNat) → (∀ d r, ds = d :: r → d.toNat ≠ 128) → hiL f (ds.foldl (fun a d => a * 128 + d.toNat % 128) 0) = ds
  | f, ds, hf, hall, hhd => by
    induction f generalizing ds with
    | zero =>
      have : ds = [] := List.eq_nil_of_length_eq_zero (by omega)
      subst this; rfl
    | succ f ih =>
      rcases List.eq_nil_or_concat ds with rfl | ⟨ds', c, rfl⟩
      · rfl
      · rw [List.concat_eq_append] at *
        rw [List.foldl_append]
        simp only [List.foldl_cons, List.foldl_nil]
        have hc := hall c (by simp)
        have hc2 : c.toNat < 256 := c.toNat_lt
        have hdiv : (ds'.foldl (fun a d => a * 128 + d.toNat % 128) 0 * 128 + c.toNat % 128) / 128 = ds'.foldl (fun a d => a * 128 + d.toNat % 128) 0 := by omega
        have hmod : (ds'.foldl (fun a d => a * 128 + d.toNat % 128) 0 * 128 + c.toNat % 128) % 128 + 128 = c.toNat := by omega
        have hne : ds'.foldl (fun a d => a * 128 + d.toNat % 128) 0 * 128 + c.toNat % 128 ≠ 0 := by
          intro h0
          have h1 : ds'.foldl (fun a d => a * 128 + d.toNat % 128) 0 = 0 := by omega
          have h2 := ih ds' (by simp at hf; omega) (fun d hd => hall d (by simp [hd])) (fun d r e => hhd d (r ++ [c]) (by rw [e]; rfl))
          rw [h1] at h2
          have h3 : ds' = [] := by
            cases f with
            | zero => exact h2.symm
            | succ f => rw [hiL, if_pos rfl] at h2; exact h2.symm
          subst h3
          exact hhd c [] rfl (by simp at h0; omega)
        rw [hiL, if_neg hne, hdiv, hmod, ih ds' (by simp at hf; omega) (fun d hd => hall d (by simp [hd])) (fun d r e => hhd d (r ++ [c]) (by rw [e]; rfl))]
        congr 2
        exact UInt8.ofNat_toNat
theorem numL_numP {most : Nat} {b : List UInt8} {n : Nat} {r : List UInt8} (h : numP most b = some (n, r)) : n ≤ most ∧ b = numL n ++ r := by
  unfold numP at h
  split at h
  · cases h
  · rename_i c0 b0
    split at h
    · cases h
    · rename_i h128
      obtain ⟨h1, ds, c, h2, h3, h4, h5, h6⟩ := numGo_inv most 6 0 _ n r h
      refine ⟨h1, ?_⟩
      have hds := fold_hi 6 ds (by omega) h5 (fun d s e => by
        subst e
        rw [List.cons_append, List.cons.injEq] at h2
        rw [← h2.1]; exact h128)
      unfold numL
      rw [h6, h2]
      rw [show (ds.foldl (fun a d => a * 128 + d.toNat % 128) 0 * 128 + c.toNat) / 128 = ds.foldl (fun a d => a * 128 + d.toNat % 128) 0 by omega, hds,
        show (ds.foldl (fun a d => a * 128 + d.toNat % 128) 0 * 128 + c.toNat) % 128 = c.toNat by omega, UInt8.ofNat_toNat, List.append_assoc]
      rfl
/-- A text behind its length. -/
def textL (s : List UInt8) : List UInt8 := numI s.length ++ s
def textP (most : Nat) (b : List UInt8) : Option (List UInt8 × List UInt8) :=
  match numP most b with
  | none => none
  | some (n, r) => if r.length < n then none else some (r.take n, r.drop n)
end Go.Proofs.YtgkmcnafkhdlnaaGreat
/- Small things. -/
namespace Go.Proofs.YtgkmcnafkhdlnaaGreat
open Go
theorem inI64 {n : Int} (h1 : -9223372036854775808 ≤ n) (h2 : n ≤ 9223372036854775807) : inI .i64 n := ⟨h1, h2⟩
theorem hide_mono {V V' : View} (h : V.Le V') (p : Nat) : (V.hide p).Le (V'.hide p) := by
  refine ⟨h.size, fun i o ho => ?_, h.out⟩
  unfold View.hide at *
  simp only at *
  split at ho
  · cases ho
  · rename_i hne; rw [if_neg hne]; exact h.see i o ho
theorem hide_see (V : View) (p i : Nat) : (V.hide p).see i = if i = p then none else V.see i := rfl
theorem hide_minus_see (V : View) (p : Nat) (x : Sl) (i : Nat) : ((V.hide p).minus x).see i = if i = p then none else (V.minus x).see i := by
  unfold View.minus
  split
  · rfl
  · simp only [hide_see]
    split <;> split <;> rfl
theorem minus_hide_le (V : View) (p : Nat) (x : Sl) : ((V.hide p).minus x).Le ((V.minus x).hide p) := by
  refine ⟨by unfold View.minus; split <;> exact Nat.le_refl _, fun i o ho => ?_, by unfold View.minus; split <;> rfl⟩
  rw [hide_minus_see] at ho
  rw [hide_see]; exact ho
theorem hide_minus_le (V : View) (p : Nat) (x : Sl) : ((V.minus x).hide p).Le ((V.hide p).minus x) := by
  refine ⟨by unfold View.minus; split <;> exact Nat.le_refl _, fun i o ho => ?_, by unfold View.minus; split <;> rfl⟩
  rw [hide_minus_see]
  rw [hide_see] at ho; exact ho
/-- A block beside a row of one's own is seen when that row is not. -/
theorem Buf.see_minus {V : View} {p : Nat} {o : Obj} {x : Sl} {e : TypeId} {sz : Nat} {cs : List Value} (h : Buf (V.hide p) x e sz cs) (ho : V.see p = some o) : (V.minus x).see p = some o := by
  unfold View.minus
  rcases h.own with ⟨ha, _⟩ | ⟨b, all, ha, hs, _⟩
  · rw [ha]; exact ho
  · rw [ha, hide_see]
    rw [hide_see] at hs
    split at hs
    · cases hs
    · rename_i hne; rw [if_neg (fun e => hne e.symm)]; exact ho
theorem Buf.hide {V : View} {p : Nat} {o : Obj} {x : Sl} {e : TypeId} {sz : Nat} {cs : List Value} (h : Buf V x e sz cs) (ho : (V.minus x).see p = some o) : Buf (V.hide p) x e sz cs := by
  refine ⟨h.len, h.le, h.lim, ?_⟩
  rcases h.own with h1 | ⟨b, all, ha, hs, h3⟩
  · exact .inl h1
  · refine .inr ⟨b, all, ha, ?_, h3⟩
    rw [hide_see]
    unfold View.minus at ho
    rw [ha, hide_see] at ho
    split at ho
    · cases ho
    · rename_i hne; rw [if_neg (fun e => hne e.symm)]; exact hs
theorem put_minus_le {V : View} {x : Sl} {r : Nat} {o : Obj} (h : V.see r = none) : (V.minus x).Le ((V.put r o).minus x) := minus_mono (View.put_le h) x
theorem Buf.put {V : View} {x : Sl} {e : TypeId} {sz : Nat} {cs : List Value} (h : Buf V x e sz cs) {r : Nat} {o : Obj} (hr : V.see r = none) : Buf (V.put r o) x e sz cs := h.mono (View.put_le hr)
/-- The first ones of a row of one's own. -/
theorem Buf.cut {V : View} {x : Sl} {e : TypeId} {sz : Nat} {cs : List Value} (h : Buf V x e sz cs) {k : Nat} (hk : k ≤ x.n) : Buf V ⟨x.a, k, x.c⟩ e sz (cs.take (k * sz)) := by
  have hle := Nat.mul_le_mul_right sz hk
  refine ⟨by simp only [List.length_take, h.len, Nat.min_eq_left hle], Nat.le_trans hk h.le, Nat.le_trans hk h.lim, ?_⟩
  rcases h.own with h1 | ⟨r, all, h1, h2, h3, h4⟩
  · exact .inl h1
  · refine .inr ⟨r, all, h1, h2, h3, ?_⟩
    rw [← h4, List.take_take, Nat.min_eq_left hle]
/-- What is appended, beside a block of one's own. -/
theorem apV_beside {V V0 : View} {p : Nat} {o : Obj} {e : TypeId} {sz bytes : Nat} {zero : List Value} {x : Sl} {y : Value} {C : Sl → View → Prop} {cs src : List Value} {m : Nat} (hz : zero.length = sz)
    (ho : V.see p = some o) (hb : Buf (V.hide p) x e sz cs) (hle : V0.Le ((V.hide p).minus x)) (hs : srcAt V sz zero y m src) (hl : src.length = m * sz) (h1 : src.all Value.oneCell' = true) (hm : (x.n + m) * bytes ≤ 140737488355328) (hm2 : x.n + m ≤ 140737488355328)
    (hC : ∀ s V', V'.see p = some o → Buf (V'.hide p) s e sz (cs ++ src) → V0.Le ((V'.hide p).minus s) → s.n = x.n + m → C s V') : apV V e sz bytes zero x y C := by
  refine apV_buf hz (hb.mono (View.hide_le V p)) hs hl h1 hm hm2 fun s V' hb' hn hle' => ?_
  have h2 := hle'.see _ _ (hb.see_minus ho)
  refine hC s V' ((View.minus_le V' s).see _ _ h2) (hb'.hide h2) ?_ hn
  exact hle.trans ((minus_hide_le V p x).trans ((hide_mono hle' p).trans (hide_minus_le V' p s)))
/-- A call that needs nothing of a row of one's own leaves it as it was. -/
theorem CallV.besideB {P : Program} {f : FuncId} {args : Array Value} {V : View} {x : Sl} {e : TypeId} {sz : Nat} {cs : List Value} {K : Value → View → Prop} (h : CallV P f args (V.minus x) K) (hb : Buf V x e sz cs) :
    CallV P f args V fun r V' => ∃ U', K r U' ∧ U'.Le (V'.minus x) ∧ Buf V' x e sz cs := by
  rcases hb.own with ⟨ha, hc⟩ | ⟨b, all, ha, hs, h3⟩
  · have e1 : V.minus x = V := by unfold View.minus; rw [ha]
    rw [e1] at h
    refine h.mono fun r V' hk => ⟨V', hk, ?_, ⟨hb.len, hb.le, hb.lim, .inl ⟨ha, hc⟩⟩⟩
    unfold View.minus; rw [ha]; exact View.Le.refl _
  · have e1 : V.minus x = V.hide b := by unfold View.minus; rw [ha]
    rw [e1] at h
    refine (CallV.frame (View.hide_le V b) h).mono ?_
    rintro r V' ⟨U', hk, hle, hrest⟩
    have hp : (V.hide b).see b = none := by simp [View.hide]
    obtain ⟨h4, h5⟩ := hrest b _ hp hs
    refine ⟨U', hk, ?_, ⟨hb.len, hb.le, hb.lim, .inr ⟨b, all, ha, h4, h3⟩⟩⟩
    have e2 : V'.minus x = V'.hide b := by unfold View.minus; rw [ha]
    rw [e2]
    refine ⟨hle.size, fun i o ho => ?_, hle.out⟩
    have hne : i ≠ b := fun e => by rw [e, h5] at ho; cases ho
    rw [hide_see, if_neg hne]; exact hle.see i o ho
theorem Buf.n_eq {α : Type} [Rep α] {W V : View} {x : Sl} {e : TypeId} {cs : List Value} {l : List α} (h : Buf V x e (Rep.sz α) cs) (hr : repL W cs l) : x.n = l.length :=
  Nat.eq_of_mul_eq_mul_right (Rep.pos (α := α)) (h.len.symm.trans hr.len)
/-- The cells of a new block, as a row. -/
theorem rowAt_new {V : View} {r : Nat} {cs : List Value} {e : TypeId} {f : Nat × Nat} (h : V.see r = some (.cells ⟨cs⟩ e f)) {k : Nat} (hk : cs.length = k) : rowAt V (some ⟨r, 0, none⟩) k cs :=
  ⟨hk, cellsAt_of_see h fun j v hj => by simpa using hj⟩
theorem put_le_hide {V U : View} {r : Nat} {o : Obj} (hr : V.see r = none) (h : U.Le V) : U.Le ((V.put r o).hide r) :=
  h.trans ⟨Nat.le_max_left _ _, fun i o' ho => by
    have hne : i ≠ r := fun e => by rw [e, hr] at ho; cases ho
    rw [hide_see, if_neg hne, View.see_put_ne V _ hne]; exact ho, rfl⟩
end Go.Proofs.YtgkmcnafkhdlnaaGreat
/- What the executor asks of these functions, written out. (Printed by wip/tools/gen.py.) -/
set_option maxRecDepth 100000
set_option linter.unusedVariables false
namespace Go.Proofs.YtgkmcnafkhdlnaaGreat
open Go
variable [DrK]
/-- potsherd/potsherdlaw10.Heavy -/
def f9_n (a0_0 : Int) (a0_1 : Int) (a0_2 : Int) (a0_3 : Int) (a0_4 : Int) (a1 : Sl) (V : View) (Q : Value → View → Prop) : Prop :=
    ∀ (b : Nat), br (bif decide ((24 : Int) < a0_0) then true else decide ((8 : Int) < a0_1)) (Q (Value.int IntKind.i64 (1 : Int)) V) (loopP [K.int IntKind.i64] (fun (x : Int) (V : View) (J : CurP [K.int IntKind.i64]) => br (decide (x < (↑(Sl.n a1) : Int))) ((0 : Int) ≤ x ∧ x < (↑(Sl.n a1) : Int) ∧ ∃ (ad : Addr), Sl.a a1 = some ad ∧ ∃ (x_1 : Int), ∃ (x_2 : Int), ∃ (x_3 : Int), ∃ (x_4 : Int), ∃ (x_5 : Sl), ∃ (x_6 : Sl), cellsAt V (Addr.add ad (Int.toNat x * (6 : Nat))) [Value.int IntKind.i64 x_1, Value.int IntKind.i64 x_2, Value.int IntKind.i64 x_3, Value.int IntKind.i64 x_4, Value.slice (Sl.a x_5) (Sl.n x_5) (Sl.c x_5), Value.slice (Sl.a x_6) (Sl.n x_6) (Sl.c x_6)] ∧ ∀ (b : Nat), br (bif bif decide ((120 : Int) ≤ x) then true else decide ((60 : Int) < (↑(Sl.n x_5) : Int)) then true else decide ((80 : Int) < (↑(Sl.n x_6) : Int))) (inI IntKind.i64 (x + (1 : Int)) ∧ Q (Value.int IntKind.i64 (x + (1 : Int))) V) (inI IntKind.i64 (x + (1 : Int)) ∧ J (x + (1 : Int)) V)) (Q (Value.int IntKind.i64 (0 : Int)) V)) ((0 : Int), ()) V)
def f9_ac : AC := (.seq (.reg ⟨.done, false, [], [], none⟩) (.seq (.seq (.reg ⟨.done, false, [], [], none⟩) (.cond none (.seq (.reg ⟨.done, false, [], [], none⟩) .leaf) .leaf)) (.seq (.seq (.reg ⟨.done, false, [], [], none⟩) (.block none (.loop ⟨[5, 6, 18, 19, 20, 21, 22, 23, 24, 25, 26, 27, 28, 29, 30, 31, 32, 33, 34, 35, 38], [(17, .int .i64)], []⟩ (.seq (.reg ⟨.done, false, [], [], none⟩) (.seq (.cond none .leaf .leaf) (.seq (.block none (.seq (.reg ⟨.done, false, [], [], none⟩) (.seq (.reg ⟨.done, false, [], [], none⟩) (.cond none (.seq (.reg ⟨.done, false, [], [], none⟩) .leaf) .leaf)))) (.reg ⟨.done, false, [], [], none⟩))))))) (.seq (.reg ⟨.done, false, [], [], none⟩) .leaf))))
theorem f9_x {a0_0 : Int} {a0_1 : Int} {a0_2 : Int} {a0_3 : Int} {a0_4 : Int} {a1 : Sl} {V : View} {Q : Value → View → Prop} (h : f9_n a0_0 a0_1 a0_2 a0_3 a0_4 a1 V Q) : CallV Tryz.prog 9 ⟨[(.agg ⟨[(.int .i64 a0_0), (.int .i64 a0_1), (.int .i64 a0_2), (.int .i64 a0_3), (.int .i64 a0_4)]⟩), (.slice a1.a a1.n a1.c)]⟩ V Q :=
  XF_sound (wr := false) Tryz.checked.mixed (enters_of (fn := Tryz.f9) (by kernel_rfl) (by kernel_rfl) (by kernel_rfl)) (fn := Tryz.f9) (by kernel_rfl) (ac := f9_ac)
    (Eq.mp (show f9_n a0_0 a0_1 a0_2 a0_3 a0_4 a1 V Q = XF Tryz.prog false Tryz.f9 (f9_ac) [(.agg ⟨[(.int .i64 a0_0), (.int .i64 a0_1), (.int .i64 a0_2), (.int .i64 a0_3), (.int .i64 a0_4)]⟩), (.slice a1.a a1.n a1.c)] V Q from by kernel_rfl) h)
/-- potsherd/potsherdlaw10.awake -/
def f10_n (V : View) (Q : Value → View → Prop) : Prop :=
    ∀ (b : Nat), CallV Tryz.prog (21 : Nat) (Array.mk [Value.int IntKind.i64 (6 : Int), Value.int IntKind.i64 (4 : Int), Value.slice none (0 : Nat) (0 : Nat)]) V fun (r : Value) (V : View) => ∃ (x : Option Addr), r = Value.pointer x ∧ CallV Tryz.prog (14 : Nat) (Array.mk [Value.pointer x, Value.agg (Array.mk [Value.int IntKind.i64 (6 : Int), Value.int IntKind.i64 (4 : Int), Value.int IntKind.i64 (1 : Int), Value.int IntKind.i64 (4 : Int), Value.int IntKind.i64 (3 : Int)]), Value.int IntKind.i64 (0 : Int), Value.slice none (0 : Nat) (0 : Nat), Value.int IntKind.i64 (0 : Int)]) V fun (r : Value) (V : View) => ∃ (x : Option Addr), ∃ (x_1 : Int), r = Value.tuple (Array.mk [Value.pointer x, Value.int IntKind.i64 x_1]) ∧ newB V (Obj.cells (Array.mk (putL [Value.int IntKind.u8 (0 : Int)] (0 : Nat) [Value.int IntKind.u8 (120 : Int)])) (5 : Nat)) fun (r : Nat) (V : View) => ∃ (cs : Array Value), ∃ (te : Nat), View.see V r = some (Obj.cells cs te) ∧ CallV Tryz.prog (12 : Nat) (Array.mk [Value.pointer x, Value.int IntKind.i64 (3 : Int), Value.slice (some (Addr.mk r (0 : Nat) none)) (1 : Nat) (1 : Nat)]) (View.put V r (Obj.cells cs te (Array.size cs, Nat.succ (Nat.add (Array.size cs) (nat_lit 0))))) fun (r : Value) (V : View) => ∃ (x_2 : Int), ∃ (x_3 : Int), ∃ (x_4 : Int), r = Value.tuple (Array.mk [Value.agg (Array.mk [Value.int IntKind.i64 x_2, Value.int IntKind.i64 x_3]), Value.int IntKind.i64 x_4]) ∧ ∀ (b : Nat), newB V (Obj.cells (Array.mk (putL (putL (putL (putL [Value.int IntKind.u8 (0 : Int), Value.int IntKind.u8 (0 : Int), Value.int IntKind.u8 (0 : Int), Value.int IntKind.u8 (0 : Int)] (0 : Nat) [Value.int IntKind.u8 (114 : Int)]) (1 : Nat) [Value.int IntKind.u8 (111 : Int)]) (2 : Nat) [Value.int IntKind.u8 (111 : Int)]) (3 : Nat) [Value.int IntKind.u8 (116 : Int)])) (5 : Nat)) fun (r : Nat) (V : View) => ∃ (cs : Array Value), ∃ (te : Nat), View.see V r = some (Obj.cells cs te) ∧ newB (View.put V r (Obj.cells cs te (Array.size cs, Nat.succ (Nat.add (Array.size cs) (nat_lit 0))))) (Obj.cells (Array.mk (putL [Value.int IntKind.i64 (0 : Int), Value.int IntKind.i64 (0 : Int)] (0 : Nat) [Value.int IntKind.i64 x_2, Value.int IntKind.i64 x_3])) (33 : Nat)) fun (r_1 : Nat) (V : View) => CallV Tryz.prog (15 : Nat) (Array.mk [Value.pointer x, Value.slice (some (Addr.mk r (0 : Nat) none)) (4 : Nat) (4 : Nat), Value.slice (some (Addr.mk r_1 (0 : Nat) none)) (1 : Nat) (1 : Nat)]) V fun (r : Value) (V : View) => ∃ (x_5 : Int), r = Value.int IntKind.i64 x_5 ∧ CallV Tryz.prog (13 : Nat) (Array.mk [Value.pointer x, Value.agg (Array.mk [Value.int IntKind.i64 x_2, Value.int IntKind.i64 x_3])]) V fun (r : Value) (V : View) => ∃ (x_6 : Sl), ∃ (x_7 : Int), r = Value.tuple (Array.mk [Value.slice (Sl.a x_6) (Sl.n x_6) (Sl.c x_6), Value.int IntKind.i64 x_7]) ∧ joinP [K.bool] (fun (J : CurP [K.bool]) => br (bif decide (x_1 = (0 : Int)) then decide (x_4 = (0 : Int)) else false) (True ∧ br (bif bif decide (x_2 = (3 : Int)) && (decide (x_3 = (1 : Int)) && true) then decide (x_5 = (0 : Int)) else false then decide (x_7 = (0 : Int)) else false) (∃ (b : ByteArray), rowAt V (Sl.a x_6) (Sl.n x_6) (bytesV b) ∧ br (decide (b = ByteArray.mk #[(120 : UInt8)])) (CallV Tryz.prog (16 : Nat) (Array.mk [Value.pointer x]) V fun (r : Value) (V : View) => ∃ (x_8 : Sl), r = Value.slice (Sl.a x_8) (Sl.n x_8) (Sl.c x_8) ∧ br (decide ((↑(Sl.n x_8) : Int) = (2 : Int))) (CallV Tryz.prog (18 : Nat) (Array.mk [Value.pointer x]) V fun (r : Value) (V : View) => ∃ (x : Int), r = Value.int IntKind.i64 x ∧ J (decide (x = (2 : Int))) V) (J false V)) (J false V)) (J false V)) (J false V)) fun (x : Bool) (V : View) => Q (Value.bool x) V
def f10_ac : AC := (.seq (.reg ⟨.done, false, [], [], none⟩) (.seq (.reg ⟨.done, false, [], [], none⟩) (.seq (.reg ⟨.done, false, [], [], none⟩) (.seq (.reg ⟨.done, false, [], [], none⟩) (.seq (.reg ⟨.done, false, [], [], none⟩) (.seq (.reg ⟨.done, false, [], [], none⟩) (.seq (.reg ⟨.done, false, [], [], none⟩) (.seq (.reg ⟨.done, false, [], [], (some ⟨[37, 38, 39, 40, 41, 42, 43, 44, 45, 46, 47, 48, 49, 50, 51, 52, 53, 54, 55, 56, 57, 58, 59, 60, 61, 62, 63, 64, 65, 66, 67, 68, 69, 70, 71], [(0, .bool)], []⟩)⟩) .leaf))))))))
theorem f10_x {_u : Unit} {V : View} {Q : Value → View → Prop} (h : f10_n V Q) : CallV Tryz.prog 10 ⟨[]⟩ V Q :=
  XF_sound (wr := false) Tryz.checked.mixed (enters_of (fn := Tryz.f10) (by kernel_rfl) (by kernel_rfl) (by kernel_rfl)) (fn := Tryz.f10) (by kernel_rfl) (ac := f10_ac)
    (Eq.mp (show f10_n V Q = XF Tryz.prog false Tryz.f10 (f10_ac) [] V Q from by kernel_rfl) h)
/-- (*potsherd/pool.Pool).Undo -/
def f11_n (a0 : Option Addr) (V : View) (Q : Value → View → Prop) : Prop :=
    br (Option.isNone a0) (Q (Value.tuple (Array.mk [])) V) (∃ (a : Addr), a0 = some a ∧ ∃ (x : Sl), View.cell? V (Addr.add a (8 : Nat)) = some (Value.slice (Sl.a x) (Sl.n x) (Sl.c x)) ∧ loopP [K.int IntKind.i64] (fun (x_1 : Int) (V : View) (J : CurP [K.int IntKind.i64]) => br (decide (x_1 < (↑(Sl.n x) : Int))) ((0 : Int) ≤ x_1 ∧ x_1 < (↑(Sl.n x) : Int) ∧ ∃ (ad : Addr), Sl.a x = some ad ∧ ∃ (x : Int), ∃ (x_2 : Int), cellsAt V (Addr.add ad (Int.toNat x_1 * (2 : Nat))) [Value.int IntKind.i64 x, Value.int IntKind.i64 x_2] ∧ ∀ (b : Nat), True ∧ ∃ (S : View), View.Le S V ∧ ∃ (a : Addr), a0 = some a ∧ ∃ (x_3 : Option Addr), View.cell? S (Addr.add a (7 : Nat)) = some (Value.pointer x_3) ∧ CallV Tryz.prog (38 : Nat) (Array.mk [Value.pointer x_3, Value.agg (Array.mk [Value.int IntKind.i64 x, Value.int IntKind.i64 x_2])]) V fun (r : Value) (V : View) => ∃ (x : Bool), r = Value.bool x ∧ inI IntKind.i64 (x_1 + (1 : Int)) ∧ J (x_1 + (1 : Int)) V) (∃ (a : Addr), a0 = some a ∧ canSet V (Addr.add a (8 : Nat)) (1 : Nat) ∧ Q (Value.tuple (Array.mk [])) (View.sets V (Addr.add a (8 : Nat)) [Value.slice none (0 : Nat) (0 : Nat)]))) ((0 : Int), ()) V)
def f11_ac : AC := (.seq (.seq (.reg ⟨.done, false, [], [], none⟩) (.cond none .leaf .leaf)) (.seq (.seq (.reg ⟨.done, false, [], [], none⟩) (.block none (.loop ⟨[3, 12, 13, 14, 15, 16, 17, 18, 19, 20, 21], [(11, .int .i64)], []⟩ (.seq (.reg ⟨.done, false, [], [], none⟩) (.seq (.cond none .leaf .leaf) (.seq (.block none (.seq (.reg ⟨.done, false, [], [], none⟩) (.reg ⟨(.fl 0 (.fl 1 (.fl 2 (.fl 3 (.fl 4 (.alt 5 false false .done .no)))))), true, [], [], none⟩))) (.reg ⟨.done, false, [], [], none⟩))))))) (.reg ⟨.done, false, [], [], none⟩)))
theorem f11_x {a0 : Option Addr} {V : View} {Q : Value → View → Prop} (h : f11_n a0 V Q) : CallV Tryz.prog 11 ⟨[(.pointer a0)]⟩ V Q :=
  XF_sound (wr := false) Tryz.checked.mixed (enters_of (fn := Tryz.f11) (by kernel_rfl) (by kernel_rfl) (by kernel_rfl)) (fn := Tryz.f11) (by kernel_rfl) (ac := f11_ac)
    (Eq.mp (show f11_n a0 V Q = XF Tryz.prog false Tryz.f11 (f11_ac) [(.pointer a0)] V Q from by kernel_rfl) h)
/-- (*potsherd/pool.Pool).Put -/
def f12_n (a0 : Option Addr) (a1 : Int) (a2 : Sl) (V : View) (Q : Value → View → Prop) : Prop :=
    ∀ (b : Nat), joinP [K.bool] (fun (J : CurP [K.bool]) => br (bif Option.isNone a0 then true else decide (a1 = (0 : Int))) (J true V) (CallV Tryz.prog (39 : Nat) (Array.mk [Value.pointer a0, Value.int IntKind.i64 a1, Value.slice (Sl.a a2) (Sl.n a2) (Sl.c a2)]) V fun (r : Value) (V : View) => ∃ (x : Bool), r = Value.bool x ∧ J (!x) V)) fun (x : Bool) (V : View) => br x (Q (Value.tuple (Array.mk [Value.agg (Array.mk [Value.int IntKind.i64 (0 : Int), Value.int IntKind.i64 (0 : Int)]), Value.int IntKind.i64 (1 : Int)])) V) (True ∧ ∃ (S : View), View.Le S V ∧ ∃ (a : Addr), a0 = some a ∧ ∃ (x : Option Addr), View.cell? S (Addr.add a (7 : Nat)) = some (Value.pointer x) ∧ ∃ (a : Addr), a0 = some a ∧ ∃ (x_1 : Int), View.cell? S (Addr.add (Addr.add a (1 : Nat)) (3 : Nat)) = some (Value.int IntKind.i64 x_1) ∧ inI IntKind.i64 (x_1 + (1 : Int)) ∧ inI IntKind.i64 (x_1 + (1 : Int) + (5 : Int)) ∧ CallV Tryz.prog (40 : Nat) (Array.mk [Value.pointer x]) V fun (r : Value) (V : View) => ∃ (x : Int), r = Value.int IntKind.i64 x ∧ View.Le S V ∧ br (decide (x_1 + (1 : Int) + (5 : Int) ≤ x)) (Q (Value.tuple (Array.mk [Value.agg (Array.mk [Value.int IntKind.i64 (0 : Int), Value.int IntKind.i64 (0 : Int)]), Value.int IntKind.i64 (18 : Int)])) V) (CallV Tryz.prog (41 : Nat) (Array.mk [Value.pointer a0]) V fun (r : Value) (V : View) => ∃ (x : Int), r = Value.int IntKind.i64 x ∧ br (!decide (x = (0 : Int))) (Q (Value.tuple (Array.mk [Value.agg (Array.mk [Value.int IntKind.i64 (0 : Int), Value.int IntKind.i64 (0 : Int)]), Value.int IntKind.i64 x])) V) (CallV Tryz.prog (42 : Nat) (Array.mk [Value.pointer a0, Value.int IntKind.i64 a1, Value.slice (Sl.a a2) (Sl.n a2) (Sl.c a2)]) V fun (r : Value) (V : View) => ∃ (x : Int), ∃ (x_2 : Int), ∃ (x_3 : Int), r = Value.tuple (Array.mk [Value.agg (Array.mk [Value.int IntKind.i64 x, Value.int IntKind.i64 x_2]), Value.int IntKind.i64 x_3]) ∧ ∀ (b : Nat), br (!decide (x_3 = (0 : Int))) (CallV Tryz.prog (11 : Nat) (Array.mk [Value.pointer a0]) V fun (r : Value) (V : View) => r = Value.tuple (Array.mk []) ∧ Q (Value.tuple (Array.mk [Value.agg (Array.mk [Value.int IntKind.i64 (0 : Int), Value.int IntKind.i64 (0 : Int)]), Value.int IntKind.i64 x_3])) V) (True ∧ ∃ (S : View), View.Le S V ∧ ∃ (a : Addr), a0 = some a ∧ ∃ (x_4 : Sl), View.cell? S (Addr.add a (8 : Nat)) = some (Value.slice (Sl.a x_4) (Sl.n x_4) (Sl.c x_4)) ∧ newB V (Obj.cells (Array.mk (putL [Value.int IntKind.i64 (0 : Int), Value.int IntKind.i64 (0 : Int)] (0 : Nat) [Value.int IntKind.i64 x, Value.int IntKind.i64 x_2])) (33 : Nat)) fun (r : Nat) (V : View) => View.Le S V ∧ apV V (33 : Nat) (2 : Nat) (16 : Nat) [Value.int IntKind.i64 (0 : Int), Value.int IntKind.i64 (0 : Int)] (Sl.mk (Sl.a x_4) (Sl.n x_4) (Sl.c x_4)) (Value.slice (some (Addr.mk r (0 : Nat) none)) (1 : Nat) (1 : Nat)) fun (s : Sl) (V : View) => ∃ (a : Addr), a0 = some a ∧ canSet V (Addr.add a (8 : Nat)) (nat_lit 1) ∧ Q (Value.tuple (Array.mk [Value.agg (Array.mk [Value.int IntKind.i64 x, Value.int IntKind.i64 x_2]), Value.int IntKind.i64 (0 : Int)])) (View.sets V (Addr.add a (8 : Nat)) [Value.slice (Sl.a s) (Sl.n s) (Sl.c s)])))))
def f12_ac : AC := (.seq (.reg ⟨.done, false, [], [], none⟩) (.seq (.seq (.reg ⟨.done, false, [], [], (some ⟨[11, 12, 13, 14, 15, 16, 17, 18, 19, 20, 21, 22], [(23, .bool)], []⟩)⟩) (.cond none (.seq (.reg ⟨.done, false, [], [], none⟩) .leaf) .leaf)) (.seq (.seq (.reg ⟨(.fl 0 (.fl 1 (.fl 2 (.fl 3 (.fl 5 (.fl 6 (.fl 7 (.fl 8 (.fl 9 (.fl 10 (.fl 11 (.alt 4 true false (.fl 12 .done) .no)))))))))))), true, [], [], none⟩) (.cond none (.seq (.reg ⟨.done, false, [], [], none⟩) .leaf) .leaf)) (.seq (.seq (.reg ⟨.done, false, [], [], none⟩) (.seq (.reg ⟨.done, false, [], [], none⟩) (.cond none (.seq (.reg ⟨.done, false, [], [], none⟩) .leaf) .leaf))) (.seq (.reg ⟨.done, false, [], [], none⟩) (.seq (.seq (.reg ⟨.done, false, [], [], none⟩) (.cond none (.seq (.reg ⟨.done, false, [], [], none⟩) (.seq (.reg ⟨.done, false, [], [], none⟩) .leaf)) .leaf)) (.seq (.reg ⟨(.fl 0 (.fl 1 (.fl 2 (.fl 3 (.fl 4 (.fl 5 (.alt 6 true false (.alt 7 false false (.fl 8 (.fl 9 (.alt 10 false false .done .no))) .no) .no))))))), true, [], [], none⟩) (.seq (.reg ⟨.done, false, [], [], none⟩) .leaf))))))))
theorem f12_x {a0 : Option Addr} {a1 : Int} {a2 : Sl} {V : View} {Q : Value → View → Prop} (h : f12_n a0 a1 a2 V Q) : CallV Tryz.prog 12 ⟨[(.pointer a0), (.int .i64 a1), (.slice a2.a a2.n a2.c)]⟩ V Q :=
  XF_sound (wr := false) Tryz.checked.mixed (enters_of (fn := Tryz.f12) (by kernel_rfl) (by kernel_rfl) (by kernel_rfl)) (fn := Tryz.f12) (by kernel_rfl) (ac := f12_ac)
    (Eq.mp (show f12_n a0 a1 a2 V Q = XF Tryz.prog false Tryz.f12 (f12_ac) [(.pointer a0), (.int .i64 a1), (.slice a2.a a2.n a2.c)] V Q from by kernel_rfl) h)
/-- (*potsherd/pool.Pool).Read -/
def f13_n (a0 : Option Addr) (a1_0 : Int) (a1_1 : Int) (V : View) (Q : Value → View → Prop) : Prop :=
    ∀ (b : Nat), br (Option.isNone a0) (Q (Value.tuple (Array.mk [Value.slice none (0 : Nat) (0 : Nat), Value.int IntKind.i64 (1 : Int)])) V) (joinP [K.bool, K.int IntKind.i64, K.int IntKind.i64] (fun (J : CurP [K.bool, K.int IntKind.i64, K.int IntKind.i64]) => True ∧ ∃ (S : View), View.Le S V ∧ ∃ (a : Addr), a0 = some a ∧ ∃ (x : Option Addr), View.cell? S (Addr.add a (7 : Nat)) = some (Value.pointer x) ∧ (CallV Tryz.prog (43 : Nat) (Array.mk [Value.pointer x, Value.agg (Array.mk [Value.int IntKind.i64 a1_0, Value.int IntKind.i64 a1_1])]) V fun (r : Value) (V : View) => ∃ (x : Int), ∃ (x_1 : Int), ∃ (x_2 : Bool), r = Value.tuple (Array.mk [Value.agg (Array.mk [Value.int IntKind.i64 x, Value.int IntKind.i64 x_1]), Value.bool x_2]) ∧ View.Le S V ∧ ∀ (b : Nat), View.Le S V ∧ J x_2 x x_1 V) ∧ ∀ (b : Nat), View.Le S V ∧ CallV Tryz.prog (43 : Nat) (Array.mk [Value.pointer x, Value.agg (Array.mk [Value.int IntKind.i64 a1_0, Value.int IntKind.i64 a1_1])]) V fun (r : Value) (V : View) => ∃ (x : Int), ∃ (x_1 : Int), ∃ (x_2 : Bool), r = Value.tuple (Array.mk [Value.agg (Array.mk [Value.int IntKind.i64 x, Value.int IntKind.i64 x_1]), Value.bool x_2]) ∧ View.Le S V ∧ J x_2 x x_1 V) fun (x : Bool) (x_1 x_2 : Int) (V : View) => ∀ (b : Nat), br (!x) (Q (Value.tuple (Array.mk [Value.slice none (0 : Nat) (0 : Nat), Value.int IntKind.i64 (8 : Int)])) V) (∃ (a : Addr), a0 = some a ∧ ∃ (x : Bool), View.cell? V (Addr.add a (11 : Nat)) = some (Value.bool x) ∧ br x (Q (Value.tuple (Array.mk [Value.slice none (0 : Nat) (0 : Nat), Value.int IntKind.i64 (2 : Int)])) V) (True ∧ ∃ (S : View), View.Le S V ∧ ∃ (a : Addr), a0 = some a ∧ ∃ (x : Option Addr), View.cell? S (Addr.add a (0 : Nat)) = some (Value.pointer x) ∧ CallV Tryz.prog (44 : Nat) (Array.mk [Value.pointer x, Value.agg (Array.mk [Value.int IntKind.i64 x_1, Value.int IntKind.i64 x_2])]) V fun (r : Value) (V : View) => ∃ (x : Sl), ∃ (x_3 : Int), r = Value.tuple (Array.mk [Value.slice (Sl.a x) (Sl.n x) (Sl.c x), Value.int IntKind.i64 x_3]) ∧ CallV Tryz.prog (45 : Nat) (Array.mk [Value.pointer a0, Value.int IntKind.i64 x_3]) V fun (r : Value) (V : View) => ∃ (x_4 : Int), r = Value.int IntKind.i64 x_4 ∧ br (!decide (x_4 = (0 : Int))) (Q (Value.tuple (Array.mk [Value.slice none (0 : Nat) (0 : Nat), Value.int IntKind.i64 x_3])) V) (CallV Tryz.prog (46 : Nat) (Array.mk [Value.slice (Sl.a x) (Sl.n x) (Sl.c x)]) V fun (r : Value) (V : View) => ∃ (x : Int), ∃ (x_5 : Int), ∃ (x_6 : Sl), ∃ (x_7 : Int), r = Value.tuple (Array.mk [Value.agg (Array.mk [Value.int IntKind.i64 x, Value.int IntKind.i64 x_5, Value.slice (Sl.a x_6) (Sl.n x_6) (Sl.c x_6)]), Value.int IntKind.i64 x_7]) ∧ ∀ (b : Nat), Q (Value.tuple (Array.mk [Value.slice (Sl.a x_6) (Sl.n x_6) (Sl.c x_6), Value.int IntKind.i64 x_7])) V))))
def f13_ac : AC := (.seq (.reg ⟨.done, false, [], [], none⟩) (.seq (.seq (.reg ⟨.done, false, [], [], none⟩) (.cond none (.seq (.reg ⟨.done, false, [], [], none⟩) .leaf) .leaf)) (.seq (.regn ⟨(.fl 0 (.fl 1 (.fl 2 (.fl 3 (.fl 4 (.alt 5 true false (.fl 6 (.fl 7 (.fl 8 (.alt 9 true false (.alt 10 false false (.fl 11 .done) .no) .no)))) (.alt 9 true false (.alt 5 true false (.fl 6 (.fl 7 (.fl 8 (.alt 10 false false (.fl 11 .done) .no)))) .no) .no))))))), true, [], [], (some ⟨[6, 13, 14, 15, 16, 17, 18, 19, 20, 21], [(7, .bool)], []⟩)⟩ [⟨6, 50, [.int .i64, .int .i64]⟩]) (.seq (.seq (.reg ⟨.done, false, [], [], none⟩) (.cond none (.seq (.reg ⟨.done, false, [], [], none⟩) .leaf) .leaf)) (.seq (.seq (.reg ⟨.done, false, [], [], none⟩) (.cond none (.seq (.reg ⟨.done, false, [], [], none⟩) .leaf) .leaf)) (.seq (.reg ⟨(.fl 0 (.fl 1 (.fl 2 (.fl 3 (.fl 4 (.alt 5 false false (.fl 6 (.fl 7 (.fl 8 (.fl 9 (.fl 10 .done))))) .no)))))), true, [], [], none⟩) (.seq (.seq (.reg ⟨.done, false, [], [], none⟩) (.cond none (.seq (.reg ⟨.done, false, [], [], none⟩) .leaf) .leaf)) (.seq (.reg ⟨.done, false, [], [], none⟩) (.seq (.reg ⟨.done, false, [], [], none⟩) .leaf)))))))))
theorem f13_x {a0 : Option Addr} {a1_0 : Int} {a1_1 : Int} {V : View} {Q : Value → View → Prop} (h : f13_n a0 a1_0 a1_1 V Q) : CallV Tryz.prog 13 ⟨[(.pointer a0), (.agg ⟨[(.int .i64 a1_0), (.int .i64 a1_1)]⟩)]⟩ V Q :=
  XF_sound (wr := false) Tryz.checked.mixed (enters_of (fn := Tryz.f13) (by kernel_rfl) (by kernel_rfl) (by kernel_rfl)) (fn := Tryz.f13) (by kernel_rfl) (ac := f13_ac)
    (Eq.mp (show f13_n a0 a1_0 a1_1 V Q = XF Tryz.prog false Tryz.f13 (f13_ac) [(.pointer a0), (.agg ⟨[(.int .i64 a1_0), (.int .i64 a1_1)]⟩)] V Q from by kernel_rfl) h)
/-- potsherd/pool.Open -/
def f14_n (a0 : Option Addr) (a1_0 : Int) (a1_1 : Int) (a1_2 : Int) (a1_3 : Int) (a1_4 : Int) (a2 : Int) (a3 : Sl) (a4 : Int) (V : View) (Q : Value → View → Prop) : Prop :=
    ∀ (b : Nat), CallV Tryz.prog (28 : Nat) (Array.mk [Value.pointer a0]) V fun (r : Value) (V : View) => ∃ (x : Sl), r = Value.slice (Sl.a x) (Sl.n x) (Sl.c x) ∧ joinP [K.bool] (fun (J : CurP [K.bool]) => True ∧ ∃ (S : View), View.Le S V ∧ br (bif decide ((↑(Sl.n x) : Int) = (0 : Int)) then true else !decide ((↑(Sl.n x) : Int) = a1_0)) (J true V) ((0 : Int) ≤ (0 : Int) ∧ (0 : Int) < (↑(Sl.n x) : Int) ∧ ∃ (ad : Addr), Sl.a x = some ad ∧ ∃ (x_1 : Sl), View.cell? S (Addr.add (Addr.add ad (0 : Nat)) (3 : Nat)) = some (Value.slice (Sl.a x_1) (Sl.n x_1) (Sl.c x_1)) ∧ br (!decide ((↑(Sl.n x_1) : Int) = a1_1)) (J true V) (CallV Tryz.prog (47 : Nat) (Array.mk [Value.agg (Array.mk [Value.int IntKind.i64 a1_0, Value.int IntKind.i64 a1_1, Value.int IntKind.i64 a1_2, Value.int IntKind.i64 a1_3, Value.int IntKind.i64 a1_4]), Value.int IntKind.i64 a2]) V fun (r : Value) (V : View) => ∃ (x_2 : Bool), r = Value.bool x_2 ∧ br (!x_2) (J true V) (CallV Tryz.prog (27 : Nat) (Array.mk [Value.slice (Sl.a x) (Sl.n x) (Sl.c x)]) V fun (r : Value) (V : View) => ∃ (x : Int), r = Value.int IntKind.i64 x ∧ br (bif bif decide (x < a2) then true else decide (a4 < (0 : Int)) then true else decide ((1099511627776 : Int) < a4)) (J true V) (CallV Tryz.prog (48 : Nat) (Array.mk [Value.pointer a0, Value.slice (Sl.a a3) (Sl.n a3) (Sl.c a3)]) V fun (r : Value) (V : View) => ∃ (x : Bool), r = Value.bool x ∧ J x V))))) fun (x : Bool) (V : View) => br x (Q (Value.tuple (Array.mk [Value.pointer none, Value.int IntKind.i64 (1 : Int)])) V) (CallV Tryz.prog (33 : Nat) (Array.mk [Value.pointer a0]) V fun (r : Value) (V : View) => ∃ (x : Bool), r = Value.bool x ∧ br x (Q (Value.tuple (Array.mk [Value.pointer none, Value.int IntKind.i64 (2 : Int)])) V) (True ∧ ∃ (S : View), View.Le S V ∧ CallV Tryz.prog (49 : Nat) (Array.mk []) V fun (r : Value) (V : View) => ∃ (x : Option Addr), r = Value.pointer x ∧ View.Le S V ∧ ∀ (b : Nat), loopP [K.int IntKind.i64] (fun (x_1 : Int) (V : View) (J : CurP [K.int IntKind.i64]) => br (decide (x_1 < (↑(Sl.n a3) : Int))) ((0 : Int) ≤ x_1 ∧ x_1 < (↑(Sl.n a3) : Int) ∧ ∃ (ad : Addr), Sl.a a3 = some ad ∧ ∃ (x_2 : Int), ∃ (x_3 : Int), ∃ (x_4 : Int), ∃ (x_5 : Int), cellsAt V (Addr.add ad (Int.toNat x_1 * (4 : Nat))) [Value.int IntKind.i64 x_2, Value.int IntKind.i64 x_3, Value.int IntKind.i64 x_4, Value.int IntKind.i64 x_5] ∧ ∀ (b : Nat), True ∧ CallV Tryz.prog (50 : Nat) (Array.mk [Value.pointer x, Value.agg (Array.mk [Value.int IntKind.i64 x_2, Value.int IntKind.i64 x_3]), Value.agg (Array.mk [Value.int IntKind.i64 x_4, Value.int IntKind.i64 x_5])]) V fun (r : Value) (V : View) => ∃ (x : Bool), r = Value.bool x ∧ inI IntKind.i64 (x_1 + (1 : Int)) ∧ J (x_1 + (1 : Int)) V) (View.see V b = none → Q (Value.tuple (Array.mk [Value.pointer (some (Addr.mk b (0 : Nat) none)), Value.int IntKind.i64 (0 : Int)])) (View.put V b (Obj.cells (Array.mk [Value.pointer a0, Value.int IntKind.i64 a1_0, Value.int IntKind.i64 a1_1, Value.int IntKind.i64 a1_2, Value.int IntKind.i64 a1_3, Value.int IntKind.i64 a1_4, Value.int IntKind.i64 a2, Value.pointer x, Value.slice none (0 : Nat) (0 : Nat), Value.int IntKind.i64 a4, Value.int IntKind.i64 (-1 : Int), Value.bool false]) (83 : Nat))))) ((0 : Int), ()) V))
def f14_ac : AC := (.seq (.reg ⟨.done, false, [], [], none⟩) (.seq (.reg ⟨.done, false, [], [], none⟩) (.seq (.block none (.seq (.reg ⟨(.fl 0 (.fl 1 (.fl 2 (.fl 3 (.fl 4 (.fl 5 (.fl 6 (.fl 7 (.fl 8 (.fl 9 (.fl 10 (.fl 11 (.fl 12 (.fl 13 (.fl 14 (.fl 15 (.fl 16 (.fl 17 (.fl 18 (.fl 19 (.fl 20 (.fl 21 (.fl 22 (.alt 23 false false (.fl 24 (.fl 25 (.fl 26 (.fl 27 (.fl 29 (.alt 28 false false (.fl 30 (.fl 31 (.fl 32 (.fl 33 (.fl 34 (.fl 35 (.fl 36 (.fl 37 (.fl 38 (.fl 39 (.fl 40 (.fl 41 (.fl 42 (.alt 43 false false (.fl 44 (.fl 45 .done)) .no)))))))))))))) .no)))))) .no)))))))))))))))))))))))), true, [], [], (some ⟨[19, 20, 21, 22, 23, 24, 25, 26, 27, 28, 29, 30, 31, 32, 33, 34, 35, 36, 37, 38, 39, 40, 41, 42, 43, 44, 45, 46, 47, 48, 49, 50, 51, 52, 53, 54, 55, 56, 57, 58, 59, 60, 61, 62, 63], [(18, .bool)], []⟩)⟩) (.cond none (.seq (.reg ⟨.done, false, [], [], none⟩) .leaf) (.seq (.reg ⟨.done, false, [], [], none⟩) (.cond none (.seq (.reg ⟨.done, false, [], [], none⟩) .leaf) .leaf))))) (.seq (.reg ⟨(.fl 0 (.fl 1 (.fl 2 (.fl 4 (.alt 3 true false (.fl 5 (.alt 6 false false (.fl 7 .done) .no)) .no))))), true, [], [], none⟩) (.seq (.seq (.reg ⟨.done, false, [], [], none⟩) (.block none (.loop ⟨[15, 77, 78, 79, 80, 81, 82, 83, 84, 85, 86, 87, 88, 89], [(76, .int .i64)], []⟩ (.seq (.reg ⟨.done, false, [], [], none⟩) (.seq (.cond none .leaf .leaf) (.seq (.block none (.seq (.reg ⟨.done, false, [], [], none⟩) (.reg ⟨(.fl 0 (.fl 1 (.fl 2 (.fl 3 (.fl 4 (.fl 5 (.fl 6 (.fl 7 (.alt 8 false false .done .no))))))))), false, [], [], none⟩))) (.reg ⟨.done, false, [], [], none⟩))))))) (.seq (.reg ⟨.done, false, [(1, 1)], [], none⟩) .leaf))))))
theorem f14_x {a0 : Option Addr} {a1_0 : Int} {a1_1 : Int} {a1_2 : Int} {a1_3 : Int} {a1_4 : Int} {a2 : Int} {a3 : Sl} {a4 : Int} {V : View} {Q : Value → View → Prop} (h : f14_n a0 a1_0 a1_1 a1_2 a1_3 a1_4 a2 a3 a4 V Q) : CallV Tryz.prog 14 ⟨[(.pointer a0), (.agg ⟨[(.int .i64 a1_0), (.int .i64 a1_1), (.int .i64 a1_2), (.int .i64 a1_3), (.int .i64 a1_4)]⟩), (.int .i64 a2), (.slice a3.a a3.n a3.c), (.int .i64 a4)]⟩ V Q :=
  XF_sound (wr := false) Tryz.checked.mixed (enters_of (fn := Tryz.f14) (by kernel_rfl) (by kernel_rfl) (by kernel_rfl)) (fn := Tryz.f14) (by kernel_rfl) (ac := f14_ac)
    (Eq.mp (show f14_n a0 a1_0 a1_1 a1_2 a1_3 a1_4 a2 a3 a4 V Q = XF Tryz.prog false Tryz.f14 (f14_ac) [(.pointer a0), (.agg ⟨[(.int .i64 a1_0), (.int .i64 a1_1), (.int .i64 a1_2), (.int .i64 a1_3), (.int .i64 a1_4)]⟩), (.int .i64 a2), (.slice a3.a a3.n a3.c), (.int .i64 a4)] V Q from by kernel_rfl) h)
/-- (*potsherd/pool.Pool).Seal -/
def f15_n (a0 : Option Addr) (a1 : Sl) (a2 : Sl) (V : View) (Q : Value → View → Prop) : Prop :=
    br (Option.isNone a0) (Q (Value.int IntKind.i64 (1 : Int)) V) (CallV Tryz.prog (51 : Nat) (Array.mk [Value.pointer a0, Value.slice (Sl.a a1) (Sl.n a1) (Sl.c a1), Value.slice (Sl.a a2) (Sl.n a2) (Sl.c a2)]) V fun (r : Value) (V : View) => ∃ (x : Int), r = Value.int IntKind.i64 x ∧ joinP [] (fun (J : CurP []) => br (!decide (x = (0 : Int))) (CallV Tryz.prog (11 : Nat) (Array.mk [Value.pointer a0]) V fun (r : Value) (V : View) => r = Value.tuple (Array.mk []) ∧ J V) (J V)) fun (V : View) => Q (Value.int IntKind.i64 x) V)
def f15_ac : AC := (.seq (.reg ⟨.done, false, [], [], none⟩) (.seq (.seq (.reg ⟨.done, false, [], [], none⟩) (.cond none (.seq (.reg ⟨.done, false, [], [], none⟩) .leaf) .leaf)) (.seq (.reg ⟨.done, false, [], [], none⟩) (.seq (.seq (.reg ⟨.done, false, [], [], none⟩) (.cond (some ⟨[16, 17], [], []⟩) (.reg ⟨.done, false, [], [], none⟩) .leaf)) (.seq (.reg ⟨.done, false, [], [], none⟩) .leaf)))))
theorem f15_x {a0 : Option Addr} {a1 : Sl} {a2 : Sl} {V : View} {Q : Value → View → Prop} (h : f15_n a0 a1 a2 V Q) : CallV Tryz.prog 15 ⟨[(.pointer a0), (.slice a1.a a1.n a1.c), (.slice a2.a a2.n a2.c)]⟩ V Q :=
  XF_sound (wr := false) Tryz.checked.mixed (enters_of (fn := Tryz.f15) (by kernel_rfl) (by kernel_rfl) (by kernel_rfl)) (fn := Tryz.f15) (by kernel_rfl) (ac := f15_ac)
    (Eq.mp (show f15_n a0 a1 a2 V Q = XF Tryz.prog false Tryz.f15 (f15_ac) [(.pointer a0), (.slice a1.a a1.n a1.c), (.slice a2.a a2.n a2.c)] V Q from by kernel_rfl) h)
/-- (*potsherd/pool.Pool).Live -/
def f16_n (a0 : Option Addr) (V : View) (Q : Value → View → Prop) : Prop :=
    ∀ (b : Nat), View.see V b = none → ∃ (x : Option Addr), View.cell? (View.put V b (Obj.cells (Array.mk [Value.pointer a0]) (31 : Nat))) (Addr.mk b (0 : Nat) none) = some (Value.pointer x) ∧ br (Option.isNone x) (Q (Value.slice none (0 : Nat) (0 : Nat)) (View.put V b (Obj.cells (Array.mk [Value.pointer a0]) (31 : Nat)))) (∃ (x : Option Addr), View.cell? (View.put V b (Obj.cells (Array.mk [Value.pointer a0]) (31 : Nat))) (Addr.mk b (0 : Nat) none) = some (Value.pointer x) ∧ ∃ (a : Addr), x = some a ∧ ∃ (x : Option Addr), View.cell? (View.put V b (Obj.cells (Array.mk [Value.pointer a0]) (31 : Nat))) (Addr.add a (7 : Nat)) = some (Value.pointer x) ∧ CallV Tryz.prog (53 : Nat) (Array.mk [Value.pointer x]) (View.put V b (Obj.cells (Array.mk [Value.pointer a0]) (31 : Nat))) fun (r : Value) (V : View) => ∃ (x : Sl), r = Value.slice (Sl.a x) (Sl.n x) (Sl.c x) ∧ CallV Tryz.prog (52 : Nat) (Array.mk [Value.slice (Sl.a x) (Sl.n x) (Sl.c x), Value.func (Fn.func (54 : Nat)) (Array.mk []) (Array.mk [Value.pointer (some (Addr.mk b (0 : Nat) none))])]) V fun (r : Value) (V : View) => ∃ (x : Sl), r = Value.slice (Sl.a x) (Sl.n x) (Sl.c x) ∧ Q (Value.slice (Sl.a x) (Sl.n x) (Sl.c x)) V)
def f16_ac : AC := (.seq (.reg ⟨.done, false, [(1, 0)], [], none⟩) (.seq (.seq (.reg ⟨.done, false, [], [], none⟩) (.cond none (.seq (.reg ⟨.done, false, [], [], none⟩) .leaf) .leaf)) (.seq (.reg ⟨.done, false, [], [], none⟩) .leaf)))
theorem f16_x {a0 : Option Addr} {V : View} {Q : Value → View → Prop} (h : f16_n a0 V Q) : CallV Tryz.prog 16 ⟨[(.pointer a0)]⟩ V Q :=
  XF_sound (wr := false) Tryz.checked.mixed (enters_of (fn := Tryz.f16) (by kernel_rfl) (by kernel_rfl) (by kernel_rfl)) (fn := Tryz.f16) (by kernel_rfl) (ac := f16_ac)
    (Eq.mp (show f16_n a0 V Q = XF Tryz.prog false Tryz.f16 (f16_ac) [(.pointer a0)] V Q from by kernel_rfl) h)
/-- (*potsherd/pool.Pool).Seq -/
def f18_n (a0 : Option Addr) (V : View) (Q : Value → View → Prop) : Prop :=
    br (Option.isNone a0) (Q (Value.int IntKind.i64 (0 : Int)) V) (∃ (a : Addr), a0 = some a ∧ ∃ (x : Int), View.cell? V (Addr.add a (9 : Nat)) = some (Value.int IntKind.i64 x) ∧ Q (Value.int IntKind.i64 x) V)
def f18_ac : AC := (.seq (.reg ⟨.done, false, [], [], none⟩) (.seq (.seq (.reg ⟨.done, false, [], [], none⟩) (.cond none (.seq (.reg ⟨.done, false, [], [], none⟩) .leaf) .leaf)) (.seq (.reg ⟨.done, false, [], [], none⟩) .leaf)))
theorem f18_x {a0 : Option Addr} {V : View} {Q : Value → View → Prop} (h : f18_n a0 V Q) : CallV Tryz.prog 18 ⟨[(.pointer a0)]⟩ V Q :=
  XF_sound (wr := false) Tryz.checked.mixed (enters_of (fn := Tryz.f18) (by kernel_rfl) (by kernel_rfl) (by kernel_rfl)) (fn := Tryz.f18) (by kernel_rfl) (ac := f18_ac)
    (Eq.mp (show f18_n a0 V Q = XF Tryz.prog false Tryz.f18 (f18_ac) [(.pointer a0)] V Q from by kernel_rfl) h)
/-- (*potsherd/pool.Pool).Bads -/
def f19_n (a0 : Option Addr) (V : View) (Q : Value → View → Prop) : Prop :=
    br (Option.isNone a0) (Q (Value.int IntKind.i64 (0 : Int)) V) (True ∧ ∃ (S : View), View.Le S V ∧ ∃ (a : Addr), a0 = some a ∧ ∃ (x : Option Addr), View.cell? S (Addr.add a (0 : Nat)) = some (Value.pointer x) ∧ ∃ (a : Addr), a0 = some a ∧ ∃ (x_1 : Int), View.cell? S (Addr.add a (6 : Nat)) = some (Value.int IntKind.i64 x_1) ∧ CallV Tryz.prog (28 : Nat) (Array.mk [Value.pointer x]) V fun (r : Value) (V : View) => ∃ (x : Sl), r = Value.slice (Sl.a x) (Sl.n x) (Sl.c x) ∧ View.Le S V ∧ CallV Tryz.prog (27 : Nat) (Array.mk [Value.slice (Sl.a x) (Sl.n x) (Sl.c x)]) V fun (r : Value) (V : View) => ∃ (x : Int), r = Value.int IntKind.i64 x ∧ View.Le S V ∧ inI IntKind.i64 (x - x_1) ∧ Q (Value.int IntKind.i64 (x - x_1)) V)
def f19_ac : AC := (.seq (.reg ⟨.done, false, [], [], none⟩) (.seq (.seq (.reg ⟨.done, false, [], [], none⟩) (.cond none (.seq (.reg ⟨.done, false, [], [], none⟩) .leaf) .leaf)) (.seq (.reg ⟨(.fl 0 (.fl 1 (.fl 2 (.fl 3 (.fl 6 (.fl 7 (.fl 8 (.fl 9 (.alt 4 true false (.alt 5 true false (.fl 10 (.fl 11 .done)) .no) .no))))))))), true, [], [], none⟩) .leaf)))
theorem f19_x {a0 : Option Addr} {V : View} {Q : Value → View → Prop} (h : f19_n a0 V Q) : CallV Tryz.prog 19 ⟨[(.pointer a0)]⟩ V Q :=
  XF_sound (wr := false) Tryz.checked.mixed (enters_of (fn := Tryz.f19) (by kernel_rfl) (by kernel_rfl) (by kernel_rfl)) (fn := Tryz.f19) (by kernel_rfl) (ac := f19_ac)
    (Eq.mp (show f19_n a0 V Q = XF Tryz.prog false Tryz.f19 (f19_ac) [(.pointer a0)] V Q from by kernel_rfl) h)
/-- (*potsherd/pool.Pool).Over -/
def f20_n (a0 : Option Addr) (V : View) (Q : Value → View → Prop) : Prop :=
    joinP [K.bool] (fun (J : CurP [K.bool]) => True ∧ ∃ (S : View), View.Le S V ∧ br (!Option.isNone a0) (∃ (a : Addr), a0 = some a ∧ ∃ (x : Int), View.cell? S (Addr.add (Addr.add a (1 : Nat)) (2 : Nat)) = some (Value.int IntKind.i64 x) ∧ CallV Tryz.prog (19 : Nat) (Array.mk [Value.pointer a0]) V fun (r : Value) (V : View) => ∃ (x_1 : Int), r = Value.int IntKind.i64 x_1 ∧ View.Le S V ∧ J (decide (x < x_1)) V) (J false V)) fun (x : Bool) (V : View) => Q (Value.bool x) V
def f20_ac : AC := (.seq (.reg ⟨.done, false, [], [], none⟩) (.seq (.reg ⟨(.fl 0 (.fl 1 (.fl 2 (.fl 3 (.fl 5 (.fl 6 (.fl 7 (.fl 8 (.fl 9 (.alt 4 true false (.fl 10 (.fl 11 (.fl 12 .done))) .no)))))))))), true, [], [], (some ⟨[3, 4, 5, 6, 7, 8, 9, 10, 11, 12, 13, 14], [(2, .bool)], []⟩)⟩) .leaf))
theorem f20_x {a0 : Option Addr} {V : View} {Q : Value → View → Prop} (h : f20_n a0 V Q) : CallV Tryz.prog 20 ⟨[(.pointer a0)]⟩ V Q :=
  XF_sound (wr := false) Tryz.checked.mixed (enters_of (fn := Tryz.f20) (by kernel_rfl) (by kernel_rfl) (by kernel_rfl)) (fn := Tryz.f20) (by kernel_rfl) (ac := f20_ac)
    (Eq.mp (show f20_n a0 V Q = XF Tryz.prog false Tryz.f20 (f20_ac) [(.pointer a0)] V Q from by kernel_rfl) h)
/-- potsherd/block.Bad -/
def f27_n (a0 : Sl) (V : View) (Q : Value → View → Prop) : Prop :=
    loopP [K.int IntKind.i64, K.int IntKind.i64] (fun (x x_1 : Int) (V : View) (J : CurP [K.int IntKind.i64, K.int IntKind.i64]) => br (decide (x_1 < (↑(Sl.n a0) : Int))) ((0 : Int) ≤ x_1 ∧ x_1 < (↑(Sl.n a0) : Int) ∧ ∃ (ad : Addr), Sl.a a0 = some ad ∧ ∃ (x_2 : Bool), ∃ (x_3 : Int), ∃ (x_4 : Int), ∃ (x_5 : Sl), cellsAt V (Addr.add ad (Int.toNat x_1 * (4 : Nat))) [Value.bool x_2, Value.int IntKind.i64 x_3, Value.int IntKind.i64 x_4, Value.slice (Sl.a x_5) (Sl.n x_5) (Sl.c x_5)] ∧ ∀ (b : Nat), joinP [K.int IntKind.i64] (fun (J : CurP [K.int IntKind.i64]) => br x_2 (inI IntKind.i64 (x + (1 : Int)) ∧ J (x + (1 : Int)) V) (J x V)) fun (x : Int) (V : View) => inI IntKind.i64 (x_1 + (1 : Int)) ∧ J x (x_1 + (1 : Int)) V) (Q (Value.int IntKind.i64 x) V)) ((0 : Int), (0 : Int), ()) V
def f27_ac : AC := (.seq (.reg ⟨.done, false, [], [], none⟩) (.seq (.reg ⟨.done, false, [], [], none⟩) (.seq (.seq (.reg ⟨.done, false, [], [], none⟩) (.block none (.loop ⟨[5, 9, 10, 11, 12, 13, 14, 15, 16], [(3, .int .i64), (8, .int .i64)], []⟩ (.seq (.reg ⟨.done, false, [], [], none⟩) (.seq (.cond none .leaf .leaf) (.seq (.block none (.seq (.reg ⟨.done, false, [], [], none⟩) (.seq (.reg ⟨.done, false, [], [], none⟩) (.cond (some ⟨[14, 15], [(3, .int .i64)], []⟩) (.reg ⟨.done, false, [], [], none⟩) .leaf)))) (.reg ⟨.done, false, [], [], none⟩))))))) (.seq (.reg ⟨.done, false, [], [], none⟩) .leaf))))
theorem f27_x {a0 : Sl} {V : View} {Q : Value → View → Prop} (h : f27_n a0 V Q) : CallV Tryz.prog 27 ⟨[(.slice a0.a a0.n a0.c)]⟩ V Q :=
  XF_sound (wr := false) Tryz.checked.mixed (enters_of (fn := Tryz.f27) (by kernel_rfl) (by kernel_rfl) (by kernel_rfl)) (fn := Tryz.f27) (by kernel_rfl) (ac := f27_ac)
    (Eq.mp (show f27_n a0 V Q = XF Tryz.prog false Tryz.f27 (f27_ac) [(.slice a0.a a0.n a0.c)] V Q from by kernel_rfl) h)
/-- (*potsherd/chip.Chip).Blocks -/
def f28_n (a0 : Option Addr) (V : View) (Q : Value → View → Prop) : Prop :=
    br (Option.isNone a0) (Q (Value.slice none (0 : Nat) (0 : Nat)) V) (∃ (a : Addr), a0 = some a ∧ ∃ (x : Sl), View.cell? V (Addr.add a (0 : Nat)) = some (Value.slice (Sl.a x) (Sl.n x) (Sl.c x)) ∧ loopP [K.sl, K.int IntKind.i64] (fun (x_1 : Sl) (x_2 : Int) (V : View) (J : CurP [K.sl, K.int IntKind.i64]) => br (decide (x_2 < (↑(Sl.n x) : Int))) (CallV Tryz.prog (69 : Nat) (Array.mk [Value.pointer a0, Value.int IntKind.i64 x_2]) V fun (r : Value) (V : View) => ∃ (x : Bool), ∃ (x_3 : Int), ∃ (x_4 : Int), ∃ (x_5 : Sl), r = Value.agg (Array.mk [Value.bool x, Value.int IntKind.i64 x_3, Value.int IntKind.i64 x_4, Value.slice (Sl.a x_5) (Sl.n x_5) (Sl.c x_5)]) ∧ newB V (Obj.cells (Array.mk (putL [Value.bool false, Value.int IntKind.i64 (0 : Int), Value.int IntKind.i64 (0 : Int), Value.slice none (0 : Nat) (0 : Nat)] (0 : Nat) [Value.bool x, Value.int IntKind.i64 x_3, Value.int IntKind.i64 x_4, Value.slice (Sl.a x_5) (Sl.n x_5) (Sl.c x_5)])) (95 : Nat)) fun (r : Nat) (V : View) => apV V (95 : Nat) (4 : Nat) (48 : Nat) [Value.bool false, Value.int IntKind.i64 (0 : Int), Value.int IntKind.i64 (0 : Int), Value.slice none (0 : Nat) (0 : Nat)] (Sl.mk (Sl.a x_1) (Sl.n x_1) (Sl.c x_1)) (Value.slice (some (Addr.mk r (0 : Nat) none)) (1 : Nat) (1 : Nat)) fun (s : Sl) (V : View) => inI IntKind.i64 (x_2 + (1 : Int)) ∧ J (Sl.mk (Sl.a s) (Sl.n s) (Sl.c s)) (x_2 + (1 : Int)) V) (Q (Value.slice (Sl.a x_1) (Sl.n x_1) (Sl.c x_1)) V)) (Sl.mk none (0 : Nat) (0 : Nat), (0 : Int), ()) V)
def f28_ac : AC := (.seq (.reg ⟨.done, false, [], [], none⟩) (.seq (.seq (.reg ⟨.done, false, [], [], none⟩) (.cond none (.seq (.reg ⟨.done, false, [], [], none⟩) .leaf) .leaf)) (.seq (.reg ⟨.done, false, [], [], none⟩) (.seq (.seq (.reg ⟨.done, false, [], [], none⟩) (.block none (.loop ⟨[4, 13, 14, 15, 16, 17, 18, 19, 20, 21], [(3, .sl), (12, .int .i64)], []⟩ (.seq (.reg ⟨.done, false, [], [], none⟩) (.seq (.cond none .leaf .leaf) (.seq (.block none (.seq (.reg ⟨.done, false, [], [], none⟩) (.reg ⟨.done, false, [], [], none⟩))) (.reg ⟨.done, false, [], [], none⟩))))))) (.seq (.reg ⟨.done, false, [], [], none⟩) .leaf)))))
theorem f28_x {a0 : Option Addr} {V : View} {Q : Value → View → Prop} (h : f28_n a0 V Q) : CallV Tryz.prog 28 ⟨[(.pointer a0)]⟩ V Q :=
  XF_sound (wr := false) Tryz.checked.mixed (enters_of (fn := Tryz.f28) (by kernel_rfl) (by kernel_rfl) (by kernel_rfl)) (fn := Tryz.f28) (by kernel_rfl) (ac := f28_ac)
    (Eq.mp (show f28_n a0 V Q = XF Tryz.prog false Tryz.f28 (f28_ac) [(.pointer a0)] V Q from by kernel_rfl) h)
/-- (*potsherd/chip.Chip).Down -/
def f33_n (a0 : Option Addr) (V : View) (Q : Value → View → Prop) : Prop :=
    joinP [K.bool] (fun (J : CurP [K.bool]) => br (!Option.isNone a0) (∃ (a : Addr), a0 = some a ∧ ∃ (x : Bool), View.cell? V (Addr.add a (9 : Nat)) = some (Value.bool x) ∧ J x V) (J false V)) fun (x : Bool) (V : View) => Q (Value.bool x) V
def f33_ac : AC := (.seq (.reg ⟨.done, false, [], [], none⟩) (.seq (.reg ⟨.done, false, [], [], (some ⟨[3, 4, 5, 6, 7, 8, 9, 10], [(2, .bool)], []⟩)⟩) .leaf))
theorem f33_x {a0 : Option Addr} {V : View} {Q : Value → View → Prop} (h : f33_n a0 V Q) : CallV Tryz.prog 33 ⟨[(.pointer a0)]⟩ V Q :=
  XF_sound (wr := false) Tryz.checked.mixed (enters_of (fn := Tryz.f33) (by kernel_rfl) (by kernel_rfl) (by kernel_rfl)) (fn := Tryz.f33) (by kernel_rfl) (ac := f33_ac)
    (Eq.mp (show f33_n a0 V Q = XF Tryz.prog false Tryz.f33 (f33_ac) [(.pointer a0)] V Q from by kernel_rfl) h)
/-- (*potsherd/place.Table).Cut -/
def f38_n (a0 : Option Addr) (a1_0 : Int) (a1_1 : Int) (V : View) (Q : Value → View → Prop) : Prop :=
    ∀ (b : Nat), br (Option.isNone a0) (Q (Value.bool false) V) (True ∧ ∃ (S : View), View.Le S V ∧ ∃ (a : Addr), a0 = some a ∧ ∃ (x : Option Nat), View.cell? S (Addr.add a (0 : Nat)) = some (Value.map x) ∧ True ∧ mapG S x (Value.agg (Array.mk [Value.int IntKind.i64 a1_0, Value.int IntKind.i64 a1_1])) fun (f : Option (Nat × Value)) => ∃ (x : Int), ∃ (x_1 : Int), found (Value.agg (Array.mk [Value.int IntKind.i64 (0 : Int), Value.int IntKind.i64 (0 : Int)])) f = Value.agg (Array.mk [Value.int IntKind.i64 x, Value.int IntKind.i64 x_1]) ∧ ∀ (b : Nat), View.Le S V ∧ joinP [] (fun (J : CurP []) => br (Option.isSome f) (True ∧ ∃ (S : View), View.Le S V ∧ ∃ (a : Addr), a0 = some a ∧ ∃ (x_2 : Option Nat), View.cell? S (Addr.add a (0 : Nat)) = some (Value.map x_2) ∧ True ∧ mapD V x_2 (Value.agg (Array.mk [Value.int IntKind.i64 a1_0, Value.int IntKind.i64 a1_1])) fun (V : View) => True ∧ ∃ (S : View), View.Le S V ∧ ∃ (a : Addr), a0 = some a ∧ ∃ (x_3 : Option Nat), View.cell? S (Addr.add a (1 : Nat)) = some (Value.map x_3) ∧ True ∧ mapD V x_3 (Value.agg (Array.mk [Value.int IntKind.i64 x, Value.int IntKind.i64 x_1])) fun (V : View) => J V) (J V)) fun (V : View) => Q (Value.bool (Option.isSome f)) V)
def f38_ac : AC := (.seq (.reg ⟨.done, false, [], [], none⟩) (.seq (.seq (.reg ⟨.done, false, [], [], none⟩) (.cond none (.seq (.reg ⟨.done, false, [], [], none⟩) .leaf) .leaf)) (.seq (.reg ⟨(.fl 0 (.fl 1 (.fl 2 (.fl 3 (.fl 4 (.fl 5 (.fl 6 (.fl 7 (.fl 8 (.alt 9 true false (.alt 10 false false (.fl 11 .done) .no) .no)))))))))), true, [], [], none⟩) (.seq (.seq (.reg ⟨.done, false, [], [], none⟩) (.cond (some ⟨[19, 20, 21, 22, 23, 24, 25, 26, 27, 28], [], []⟩) (.seq (.reg ⟨(.fl 0 (.fl 1 (.fl 2 (.fl 3 (.fl 4 (.alt 5 false false .done .no)))))), true, [], [], none⟩) (.reg ⟨(.fl 0 (.fl 1 (.fl 2 (.fl 3 (.fl 4 (.alt 5 false false .done .no)))))), true, [], [], none⟩)) .leaf)) (.seq (.reg ⟨.done, false, [], [], none⟩) .leaf)))))
theorem f38_x {a0 : Option Addr} {a1_0 : Int} {a1_1 : Int} {V : View} {Q : Value → View → Prop} (h : f38_n a0 a1_0 a1_1 V Q) : CallV Tryz.prog 38 ⟨[(.pointer a0), (.agg ⟨[(.int .i64 a1_0), (.int .i64 a1_1)]⟩)]⟩ V Q :=
  XF_sound (wr := false) Tryz.checked.mixed (enters_of (fn := Tryz.f38) (by kernel_rfl) (by kernel_rfl) (by kernel_rfl)) (fn := Tryz.f38) (by kernel_rfl) (ac := f38_ac)
    (Eq.mp (show f38_n a0 a1_0 a1_1 V Q = XF Tryz.prog false Tryz.f38 (f38_ac) [(.pointer a0), (.agg ⟨[(.int .i64 a1_0), (.int .i64 a1_1)]⟩)] V Q from by kernel_rfl) h)
/-- (*potsherd/pool.Pool).fits -/
def f39_n (a0 : Option Addr) (a1 : Int) (a2 : Sl) (V : View) (Q : Value → View → Prop) : Prop :=
    ∃ (a : Addr), a0 = some a ∧ ∃ (x : Int), View.cell? V (Addr.add a (9 : Nat)) = some (Value.int IntKind.i64 x) ∧ inI IntKind.i64 (x + (1 : Int)) ∧ CallV Tryz.prog (74 : Nat) (Array.mk [Value.agg (Array.mk [Value.int IntKind.i64 a1, Value.int IntKind.i64 (x + (1 : Int)), Value.slice (Sl.a a2) (Sl.n a2) (Sl.c a2)])]) V fun (r : Value) (V : View) => ∃ (x : Bool), r = Value.bool x ∧ Q (Value.bool x) V
def f39_ac : AC := (.seq (.reg ⟨.done, false, [], [], none⟩) (.seq (.reg ⟨.done, false, [], [], none⟩) .leaf))
theorem f39_x {a0 : Option Addr} {a1 : Int} {a2 : Sl} {V : View} {Q : Value → View → Prop} (h : f39_n a0 a1 a2 V Q) : CallV Tryz.prog 39 ⟨[(.pointer a0), (.int .i64 a1), (.slice a2.a a2.n a2.c)]⟩ V Q :=
  XF_sound (wr := false) Tryz.checked.mixed (enters_of (fn := Tryz.f39) (by kernel_rfl) (by kernel_rfl) (by kernel_rfl)) (fn := Tryz.f39) (by kernel_rfl) (ac := f39_ac)
    (Eq.mp (show f39_n a0 a1 a2 V Q = XF Tryz.prog false Tryz.f39 (f39_ac) [(.pointer a0), (.int .i64 a1), (.slice a2.a a2.n a2.c)] V Q from by kernel_rfl) h)
/-- (*potsherd/place.Table).Len -/
def f40_n (a0 : Option Addr) (V : View) (Q : Value → View → Prop) : Prop :=
    br (Option.isNone a0) (Q (Value.int IntKind.i64 (0 : Int)) V) (∃ (a : Addr), a0 = some a ∧ ∃ (x : Option Nat), View.cell? V (Addr.add a (1 : Nat)) = some (Value.map x) ∧ match some (TypeDesc.map (50 : Nat) (33 : Nat)), Value.map x with | some TypeDesc.string, Value.string s => Q (Value.int IntKind.i64 (↑(ByteArray.size s) : Int)) V | some (TypeDesc.slice elem), Value.slice a n cap => Q (Value.int IntKind.i64 (↑n : Int)) V | some (TypeDesc.map key elem), Value.map none => Q (Value.int IntKind.i64 (0 : Int)) V | some (TypeDesc.map key elem), Value.map (some r) => ∃ (es : Array MapEntry), ∃ (cl : Nat), View.see V r = some (Obj.map es cl) ∧ Q (Value.int IntKind.i64 (↑(Array.size es) : Int)) V | x, x_1 => False)
def f40_ac : AC := (.seq (.reg ⟨.done, false, [], [], none⟩) (.seq (.seq (.reg ⟨.done, false, [], [], none⟩) (.cond none (.seq (.reg ⟨.done, false, [], [], none⟩) .leaf) .leaf)) (.seq (.reg ⟨.done, false, [], [], none⟩) .leaf)))
theorem f40_x {a0 : Option Addr} {V : View} {Q : Value → View → Prop} (h : f40_n a0 V Q) : CallV Tryz.prog 40 ⟨[(.pointer a0)]⟩ V Q :=
  XF_sound (wr := false) Tryz.checked.mixed (enters_of (fn := Tryz.f40) (by kernel_rfl) (by kernel_rfl) (by kernel_rfl)) (fn := Tryz.f40) (by kernel_rfl) (ac := f40_ac)
    (Eq.mp (show f40_n a0 V Q = XF Tryz.prog false Tryz.f40 (f40_ac) [(.pointer a0)] V Q from by kernel_rfl) h)
/-- (*potsherd/pool.Pool).stops -/
def f41_n (a0 : Option Addr) (V : View) (Q : Value → View → Prop) : Prop :=
    joinP [K.bool] (fun (J : CurP [K.bool]) => ∃ (a : Addr), a0 = some a ∧ ∃ (x : Bool), View.cell? V (Addr.add a (11 : Nat)) = some (Value.bool x) ∧ br x (J true V) (∃ (a : Addr), a0 = some a ∧ ∃ (x : Option Addr), View.cell? V (Addr.add a (0 : Nat)) = some (Value.pointer x) ∧ CallV Tryz.prog (33 : Nat) (Array.mk [Value.pointer x]) V fun (r : Value) (V : View) => ∃ (x : Bool), r = Value.bool x ∧ J x V)) fun (x : Bool) (V : View) => br x (CallV Tryz.prog (45 : Nat) (Array.mk [Value.pointer a0, Value.int IntKind.i64 (2 : Int)]) V fun (r : Value) (V : View) => ∃ (x : Int), r = Value.int IntKind.i64 x ∧ Q (Value.int IntKind.i64 x) V) (CallV Tryz.prog (20 : Nat) (Array.mk [Value.pointer a0]) V fun (r : Value) (V : View) => ∃ (x : Bool), r = Value.bool x ∧ br x (Q (Value.int IntKind.i64 (6 : Int)) V) (Q (Value.int IntKind.i64 (0 : Int)) V))
def f41_ac : AC := (.seq (.reg ⟨.done, false, [], [], none⟩) (.seq (.block none (.seq (.reg ⟨.done, false, [], [], (some ⟨[4, 5, 6, 7, 8, 9, 10, 11, 12, 13, 14], [(3, .bool)], []⟩)⟩) (.cond none (.seq (.reg ⟨.done, false, [], [], none⟩) .leaf) (.seq (.reg ⟨.done, false, [], [], none⟩) (.cond none (.seq (.reg ⟨.done, false, [], [], none⟩) .leaf) .leaf))))) (.seq (.reg ⟨.done, false, [], [], none⟩) .leaf)))
theorem f41_x {a0 : Option Addr} {V : View} {Q : Value → View → Prop} (h : f41_n a0 V Q) : CallV Tryz.prog 41 ⟨[(.pointer a0)]⟩ V Q :=
  XF_sound (wr := false) Tryz.checked.mixed (enters_of (fn := Tryz.f41) (by kernel_rfl) (by kernel_rfl) (by kernel_rfl)) (fn := Tryz.f41) (by kernel_rfl) (ac := f41_ac)
    (Eq.mp (show f41_n a0 V Q = XF Tryz.prog false Tryz.f41 (f41_ac) [(.pointer a0)] V Q from by kernel_rfl) h)
/-- (*potsherd/pool.Pool).begins -/
def f42_n (a0 : Option Addr) (a1 : Int) (a2 : Sl) (V : View) (Q : Value → View → Prop) : Prop :=
    ∀ (b : Nat), ∃ (a : Addr), a0 = some a ∧ ∃ (x : Int), View.cell? V (Addr.add a (9 : Nat)) = some (Value.int IntKind.i64 x) ∧ inI IntKind.i64 (x + (1 : Int)) ∧ CallV Tryz.prog (75 : Nat) (Array.mk [Value.agg (Array.mk [Value.int IntKind.i64 a1, Value.int IntKind.i64 (x + (1 : Int)), Value.slice (Sl.a a2) (Sl.n a2) (Sl.c a2)])]) V fun (r : Value) (V : View) => ∃ (x : Sl), ∃ (x_1 : Int), r = Value.tuple (Array.mk [Value.slice (Sl.a x) (Sl.n x) (Sl.c x), Value.int IntKind.i64 x_1]) ∧ br (!decide (x_1 = (0 : Int))) (Q (Value.tuple (Array.mk [Value.agg (Array.mk [Value.int IntKind.i64 (0 : Int), Value.int IntKind.i64 (0 : Int)]), Value.int IntKind.i64 x_1])) V) (∃ (a : Addr), a0 = some a ∧ ∃ (x_2 : Int), View.cell? V (Addr.add a (9 : Nat)) = some (Value.int IntKind.i64 x_2) ∧ inI IntKind.i64 (x_2 + (1 : Int)) ∧ ∃ (a : Addr), a0 = some a ∧ canSet V (Addr.add a (9 : Nat)) (nat_lit 1) ∧ ∃ (a_1 : Addr), a0 = some a_1 ∧ ∃ (x_3 : Int), View.cell? (View.sets V (Addr.add a (9 : Nat)) [Value.int IntKind.i64 (x_2 + (1 : Int))]) (Addr.add a_1 (9 : Nat)) = some (Value.int IntKind.i64 x_3) ∧ ∀ (b : Nat), True ∧ ∃ (S : View), View.Le S (View.sets V (Addr.add a (9 : Nat)) [Value.int IntKind.i64 (x_2 + (1 : Int))]) ∧ CallV Tryz.prog (76 : Nat) (Array.mk [Value.pointer a0, Value.agg (Array.mk [Value.int IntKind.i64 a1, Value.int IntKind.i64 x_3]), Value.slice (Sl.a x) (Sl.n x) (Sl.c x)]) (View.sets V (Addr.add a (9 : Nat)) [Value.int IntKind.i64 (x_2 + (1 : Int))]) fun (r : Value) (V : View) => ∃ (x : Int), r = Value.int IntKind.i64 x ∧ View.Le S V ∧ CallV Tryz.prog (45 : Nat) (Array.mk [Value.pointer a0, Value.int IntKind.i64 x]) V fun (r : Value) (V : View) => ∃ (x : Int), r = Value.int IntKind.i64 x ∧ View.Le S V ∧ Q (Value.tuple (Array.mk [Value.agg (Array.mk [Value.int IntKind.i64 a1, Value.int IntKind.i64 x_3]), Value.int IntKind.i64 x])) V)
def f42_ac : AC := (.seq (.reg ⟨.done, false, [], [], none⟩) (.seq (.reg ⟨.done, false, [], [], none⟩) (.seq (.seq (.reg ⟨.done, false, [], [], none⟩) (.cond none (.seq (.reg ⟨.done, false, [], [], none⟩) .leaf) .leaf)) (.seq (.reg ⟨.done, false, [], [], none⟩) (.seq (.reg ⟨.done, false, [], [], none⟩) (.seq (.reg ⟨(.fl 0 (.fl 1 (.fl 2 (.fl 3 (.fl 4 (.alt 5 true false (.alt 6 true false (.alt 7 false false (.fl 8 .done) .no) .no) .no)))))), true, [], [], none⟩) .leaf))))))
theorem f42_x {a0 : Option Addr} {a1 : Int} {a2 : Sl} {V : View} {Q : Value → View → Prop} (h : f42_n a0 a1 a2 V Q) : CallV Tryz.prog 42 ⟨[(.pointer a0), (.int .i64 a1), (.slice a2.a a2.n a2.c)]⟩ V Q :=
  XF_sound (wr := false) Tryz.checked.mixed (enters_of (fn := Tryz.f42) (by kernel_rfl) (by kernel_rfl) (by kernel_rfl)) (fn := Tryz.f42) (by kernel_rfl) (ac := f42_ac)
    (Eq.mp (show f42_n a0 a1 a2 V Q = XF Tryz.prog false Tryz.f42 (f42_ac) [(.pointer a0), (.int .i64 a1), (.slice a2.a a2.n a2.c)] V Q from by kernel_rfl) h)
/-- (*potsherd/place.Table).At -/
def f43_n (a0 : Option Addr) (a1_0 : Int) (a1_1 : Int) (V : View) (Q : Value → View → Prop) : Prop :=
    ∀ (b b : Nat), br (Option.isNone a0) (Q (Value.tuple (Array.mk [Value.agg (Array.mk [Value.int IntKind.i64 (0 : Int), Value.int IntKind.i64 (0 : Int)]), Value.bool false])) V) (True ∧ ∃ (S : View), View.Le S V ∧ ∃ (a : Addr), a0 = some a ∧ ∃ (x : Option Nat), View.cell? S (Addr.add a (0 : Nat)) = some (Value.map x) ∧ True ∧ mapG S x (Value.agg (Array.mk [Value.int IntKind.i64 a1_0, Value.int IntKind.i64 a1_1])) fun (f : Option (Nat × Value)) => ∃ (x : Int), ∃ (x_1 : Int), found (Value.agg (Array.mk [Value.int IntKind.i64 (0 : Int), Value.int IntKind.i64 (0 : Int)])) f = Value.agg (Array.mk [Value.int IntKind.i64 x, Value.int IntKind.i64 x_1]) ∧ ∀ (b : Nat), View.Le S V ∧ Q (Value.tuple (Array.mk [Value.agg (Array.mk [Value.int IntKind.i64 x, Value.int IntKind.i64 x_1]), Value.bool (Option.isSome f)])) V)
def f43_ac : AC := (.seq (.reg ⟨.done, false, [], [], none⟩) (.seq (.seq (.reg ⟨.done, false, [], [], none⟩) (.cond none (.seq (.reg ⟨.done, false, [], [], none⟩) .leaf) .leaf)) (.seq (.reg ⟨(.fl 0 (.fl 1 (.fl 2 (.fl 3 (.fl 4 (.fl 5 (.fl 6 (.fl 7 (.fl 8 (.alt 9 true false (.alt 10 false false (.fl 11 .done) .no) .no)))))))))), true, [], [], none⟩) (.seq (.reg ⟨.done, false, [], [], none⟩) .leaf))))
theorem f43_x {a0 : Option Addr} {a1_0 : Int} {a1_1 : Int} {V : View} {Q : Value → View → Prop} (h : f43_n a0 a1_0 a1_1 V Q) : CallV Tryz.prog 43 ⟨[(.pointer a0), (.agg ⟨[(.int .i64 a1_0), (.int .i64 a1_1)]⟩)]⟩ V Q :=
  XF_sound (wr := false) Tryz.checked.mixed (enters_of (fn := Tryz.f43) (by kernel_rfl) (by kernel_rfl) (by kernel_rfl)) (fn := Tryz.f43) (by kernel_rfl) (ac := f43_ac)
    (Eq.mp (show f43_n a0 a1_0 a1_1 V Q = XF Tryz.prog false Tryz.f43 (f43_ac) [(.pointer a0), (.agg ⟨[(.int .i64 a1_0), (.int .i64 a1_1)]⟩)] V Q from by kernel_rfl) h)
/-- (*potsherd/chip.Chip).Read -/
def f44_n (a0 : Option Addr) (a1_0 : Int) (a1_1 : Int) (V : View) (Q : Value → View → Prop) : Prop :=
    ∀ (b : Nat), CallV Tryz.prog (77 : Nat) (Array.mk [Value.pointer a0, Value.agg (Array.mk [Value.int IntKind.i64 a1_0, Value.int IntKind.i64 a1_1])]) V fun (r : Value) (V : View) => ∃ (x : Bool), r = Value.bool x ∧ br (!x) (Q (Value.tuple (Array.mk [Value.slice none (0 : Nat) (0 : Nat), Value.int IntKind.i64 (1 : Int)])) V) (∃ (a : Addr), a0 = some a ∧ ∃ (x : Bool), View.cell? V (Addr.add a (9 : Nat)) = some (Value.bool x) ∧ br x (Q (Value.tuple (Array.mk [Value.slice none (0 : Nat) (0 : Nat), Value.int IntKind.i64 (2 : Int)])) V) (∃ (a : Addr), a0 = some a ∧ ∃ (x : Int), View.cell? V (Addr.add (Addr.add a (2 : Nat)) (0 : Nat)) = some (Value.int IntKind.i64 x) ∧ inI IntKind.i64 (x + (1 : Int)) ∧ ∃ (a : Addr), a0 = some a ∧ canSet V (Addr.add (Addr.add a (2 : Nat)) (0 : Nat)) (nat_lit 1) ∧ True ∧ ∃ (S : View), View.Le S (View.sets V (Addr.add (Addr.add a (2 : Nat)) (0 : Nat)) [Value.int IntKind.i64 (x + (1 : Int))]) ∧ ∃ (a_1 : Addr), a0 = some a_1 ∧ ∃ (x_1 : Sl), View.cell? S (Addr.add a_1 (0 : Nat)) = some (Value.slice (Sl.a x_1) (Sl.n x_1) (Sl.c x_1)) ∧ (0 : Int) ≤ a1_0 ∧ a1_0 < (↑(Sl.n x_1) : Int) ∧ ∃ (ad : Addr), Sl.a x_1 = some ad ∧ ∃ (x_2 : Sl), View.cell? S (Addr.add (Addr.add ad (Int.toNat a1_0 * (4 : Nat))) (3 : Nat)) = some (Value.slice (Sl.a x_2) (Sl.n x_2) (Sl.c x_2)) ∧ (0 : Int) ≤ a1_1 ∧ a1_1 < (↑(Sl.n x_2) : Int) ∧ ∃ (ad : Addr), Sl.a x_2 = some ad ∧ ∃ (x_3 : Sl), View.cell? S (Addr.add ad (Int.toNat a1_1 * (1 : Nat))) = some (Value.slice (Sl.a x_3) (Sl.n x_3) (Sl.c x_3)) ∧ CallV Tryz.prog (78 : Nat) (Array.mk [Value.slice (Sl.a x_3) (Sl.n x_3) (Sl.c x_3)]) (View.sets V (Addr.add (Addr.add a (2 : Nat)) (0 : Nat)) [Value.int IntKind.i64 (x + (1 : Int))]) fun (r : Value) (V : View) => ∃ (x : Sl), r = Value.slice (Sl.a x) (Sl.n x) (Sl.c x) ∧ Q (Value.tuple (Array.mk [Value.slice (Sl.a x) (Sl.n x) (Sl.c x), Value.int IntKind.i64 (0 : Int)])) V))
def f44_ac : AC := (.seq (.reg ⟨.done, false, [], [], none⟩) (.seq (.block none (.seq (.reg ⟨.done, false, [], [], none⟩) (.cond none (.seq (.reg ⟨.done, false, [], [], none⟩) .leaf) (.seq (.reg ⟨.done, false, [], [], none⟩) (.cond none (.seq (.reg ⟨.done, false, [], [], none⟩) .leaf) .leaf))))) (.seq (.reg ⟨.done, false, [], [], none⟩) (.seq (.reg ⟨(.fl 0 (.fl 1 (.fl 2 (.fl 3 (.fl 4 (.fl 5 (.fl 6 (.fl 7 (.fl 8 (.fl 9 (.fl 10 (.fl 11 (.fl 12 (.alt 13 false false (.fl 14 (.fl 15 .done)) .no)))))))))))))), true, [], [], none⟩) .leaf))))
theorem f44_x {a0 : Option Addr} {a1_0 : Int} {a1_1 : Int} {V : View} {Q : Value → View → Prop} (h : f44_n a0 a1_0 a1_1 V Q) : CallV Tryz.prog 44 ⟨[(.pointer a0), (.agg ⟨[(.int .i64 a1_0), (.int .i64 a1_1)]⟩)]⟩ V Q :=
  XF_sound (wr := false) Tryz.checked.mixed (enters_of (fn := Tryz.f44) (by kernel_rfl) (by kernel_rfl) (by kernel_rfl)) (fn := Tryz.f44) (by kernel_rfl) (ac := f44_ac)
    (Eq.mp (show f44_n a0 a1_0 a1_1 V Q = XF Tryz.prog false Tryz.f44 (f44_ac) [(.pointer a0), (.agg ⟨[(.int .i64 a1_0), (.int .i64 a1_1)]⟩)] V Q from by kernel_rfl) h)
/-- (*potsherd/pool.Pool).meets -/
def f45_n (a0 : Option Addr) (a1 : Int) (V : View) (Q : Value → View → Prop) : Prop :=
    ∃ (a : Addr), a0 = some a ∧ ∃ (x : Bool), View.cell? V (Addr.add a (11 : Nat)) = some (Value.bool x) ∧ ∃ (a : Addr), a0 = some a ∧ canSet V (Addr.add a (11 : Nat)) (nat_lit 1) ∧ Q (Value.int IntKind.i64 a1) (View.sets V (Addr.add a (11 : Nat)) [Value.bool (bif x then true else decide (a1 = (2 : Int)))])
def f45_ac : AC := (.seq (.reg ⟨.done, false, [], [], none⟩) (.seq (.reg ⟨.done, false, [], [], none⟩) (.seq (.reg ⟨.done, false, [], [], none⟩) .leaf)))
theorem f45_x {a0 : Option Addr} {a1 : Int} {V : View} {Q : Value → View → Prop} (h : f45_n a0 a1 V Q) : CallV Tryz.prog 45 ⟨[(.pointer a0), (.int .i64 a1)]⟩ V Q :=
  XF_sound (wr := false) Tryz.checked.mixed (enters_of (fn := Tryz.f45) (by kernel_rfl) (by kernel_rfl) (by kernel_rfl)) (fn := Tryz.f45) (by kernel_rfl) (ac := f45_ac)
    (Eq.mp (show f45_n a0 a1 V Q = XF Tryz.prog false Tryz.f45 (f45_ac) [(.pointer a0), (.int .i64 a1)] V Q from by kernel_rfl) h)
/-- potsherd/sheet.Parse -/
def f46_n (a0 : Sl) (V : View) (Q : Value → View → Prop) : Prop :=
    ∀ (b : Nat), CallV Tryz.prog (79 : Nat) (Array.mk [Value.slice (Sl.a a0) (Sl.n a0) (Sl.c a0)]) V fun (r : Value) (V : View) => ∃ (x : Option Addr), r = Value.pointer x ∧ CallV Tryz.prog (80 : Nat) (Array.mk [Value.pointer x, Value.int IntKind.i64 (60 : Int)]) V fun (r : Value) (V : View) => ∃ (x_1 : Int), r = Value.int IntKind.i64 x_1 ∧ CallV Tryz.prog (80 : Nat) (Array.mk [Value.pointer x, Value.int IntKind.i64 (1099511627776 : Int)]) V fun (r : Value) (V : View) => ∃ (x_2 : Int), r = Value.int IntKind.i64 x_2 ∧ ∀ (b : Nat), CallV Tryz.prog (81 : Nat) (Array.mk [Value.pointer x, Value.int IntKind.i64 (2000 : Int)]) V fun (r : Value) (V : View) => ∃ (x_3 : Sl), r = Value.slice (Sl.a x_3) (Sl.n x_3) (Sl.c x_3) ∧ joinP [K.bool] (fun (J : CurP [K.bool]) => CallV Tryz.prog (82 : Nat) (Array.mk [Value.pointer x]) V fun (r : Value) (V : View) => ∃ (x_4 : Int), r = Value.int IntKind.i64 x_4 ∧ br (!decide (x_4 = (0 : Int))) (J true V) (CallV Tryz.prog (83 : Nat) (Array.mk [Value.pointer x]) V fun (r : Value) (V : View) => ∃ (x : Int), r = Value.int IntKind.i64 x ∧ br (!decide (x = (1 : Int))) (J true V) (inI IntKind.i64 ((↑(Sl.n a0) : Int) - (1 : Int)) ∧ (0 : Int) ≤ (↑(Sl.n a0) : Int) - (1 : Int) ∧ (↑(Sl.n a0) : Int) - (1 : Int) < (↑(Sl.n a0) : Int) ∧ ∃ (ad : Addr), Sl.a a0 = some ad ∧ ∃ (x : Int), View.cell? V (Addr.add ad (Int.toNat ((↑(Sl.n a0) : Int) - (1 : Int)) * (1 : Nat))) = some (Value.int IntKind.u8 x) ∧ br (!decide (x = (90 : Int))) (J true V) (CallV Tryz.prog (74 : Nat) (Array.mk [Value.agg (Array.mk [Value.int IntKind.i64 x_1, Value.int IntKind.i64 x_2, Value.slice (Sl.a x_3) (Sl.n x_3) (Sl.c x_3)])]) V fun (r : Value) (V : View) => ∃ (x : Bool), r = Value.bool x ∧ J (!x) V)))) fun (x : Bool) (V : View) => br x (Q (Value.tuple (Array.mk [Value.agg (Array.mk [Value.int IntKind.i64 (0 : Int), Value.int IntKind.i64 (0 : Int), Value.slice none (0 : Nat) (0 : Nat)]), Value.int IntKind.i64 (5 : Int)])) V) (Q (Value.tuple (Array.mk [Value.agg (Array.mk [Value.int IntKind.i64 x_1, Value.int IntKind.i64 x_2, Value.slice (Sl.a x_3) (Sl.n x_3) (Sl.c x_3)]), Value.int IntKind.i64 (0 : Int)])) V)
def f46_ac : AC := (.seq (.reg ⟨.done, false, [], [], none⟩) (.seq (.reg ⟨.done, false, [], [], none⟩) (.seq (.reg ⟨.done, false, [], [], none⟩) (.seq (.reg ⟨.done, false, [], [], none⟩) (.seq (.seq (.reg ⟨.done, false, [], [], (some ⟨[16, 17, 18, 19, 20, 21, 22, 23, 24, 25, 26, 27, 28, 29, 30, 31, 32, 33, 34, 35, 36], [(37, .bool)], []⟩)⟩) (.cond none (.seq (.reg ⟨.done, false, [], [], none⟩) .leaf) .leaf)) (.seq (.reg ⟨.done, false, [], [], none⟩) .leaf))))))
theorem f46_x {a0 : Sl} {V : View} {Q : Value → View → Prop} (h : f46_n a0 V Q) : CallV Tryz.prog 46 ⟨[(.slice a0.a a0.n a0.c)]⟩ V Q :=
  XF_sound (wr := false) Tryz.checked.mixed (enters_of (fn := Tryz.f46) (by kernel_rfl) (by kernel_rfl) (by kernel_rfl)) (fn := Tryz.f46) (by kernel_rfl) (ac := f46_ac)
    (Eq.mp (show f46_n a0 V Q = XF Tryz.prog false Tryz.f46 (f46_ac) [(.slice a0.a a0.n a0.c)] V Q from by kernel_rfl) h)
/-- potsherd/plan.Fits -/
def f47_n (a0_0 : Int) (a0_1 : Int) (a0_2 : Int) (a0_3 : Int) (a0_4 : Int) (a1 : Int) (V : View) (Q : Value → View → Prop) : Prop :=
    ∀ (b : Nat), joinP [K.bool] (fun (J : CurP [K.bool]) => True ∧ ∃ (S : View), View.Le S V ∧ CallV Tryz.prog (84 : Nat) (Array.mk [Value.agg (Array.mk [Value.int IntKind.i64 a0_0, Value.int IntKind.i64 a0_1, Value.int IntKind.i64 a0_2, Value.int IntKind.i64 a0_3, Value.int IntKind.i64 a0_4])]) V fun (r : Value) (V : View) => ∃ (x : Bool), r = Value.bool x ∧ View.Le S V ∧ ∃ (S' : View), View.Le S S' ∧ View.Le S' V ∧ br x (CallV Tryz.prog (85 : Nat) (Array.mk [Value.int IntKind.i64 a1, Value.int IntKind.i64 (0 : Int), Value.int IntKind.i64 a0_0]) V fun (r : Value) (V : View) => ∃ (x : Bool), r = Value.bool x ∧ View.Le S' V ∧ ∃ (S'_1 : View), View.Le S' S'_1 ∧ View.Le S'_1 V ∧ br x (CallV Tryz.prog (86 : Nat) (Array.mk [Value.agg (Array.mk [Value.int IntKind.i64 a0_0, Value.int IntKind.i64 a0_1, Value.int IntKind.i64 a0_2, Value.int IntKind.i64 a0_3, Value.int IntKind.i64 a0_4]), Value.int IntKind.i64 a1]) V fun (r : Value) (V : View) => ∃ (x : Int), r = Value.int IntKind.i64 x ∧ View.Le S'_1 V ∧ CallV Tryz.prog (87 : Nat) (Array.mk [Value.agg (Array.mk [Value.int IntKind.i64 a0_0, Value.int IntKind.i64 a0_1, Value.int IntKind.i64 a0_2, Value.int IntKind.i64 a0_3, Value.int IntKind.i64 a0_4])]) V fun (r : Value) (V : View) => ∃ (x_1 : Int), r = Value.int IntKind.i64 x_1 ∧ J (decide (x_1 ≤ x)) V) (J false V)) (∃ (S'_1 : View), View.Le S' S'_1 ∧ View.Le S'_1 V ∧ J false V)) fun (x : Bool) (V : View) => Q (Value.bool x) V
def f47_ac : AC := (.seq (.reg ⟨.done, false, [], [], none⟩) (.seq (.reg ⟨(.fl 0 (.alt 1 true true (.fl 2 (.fl 3 (.fl 4 (.fl 5 (.alt 6 true true (.fl 7 (.fl 8 (.fl 9 (.fl 10 (.fl 12 (.alt 11 true false (.alt 13 false false (.fl 14 (.fl 15 (.fl 16 .done))) .no) .no)))))) .no))))) .no)), true, [], [], (some ⟨[5, 6, 7, 8, 9, 10, 11, 12, 13, 14, 15, 16, 17, 18, 19, 20], [(4, .bool)], []⟩)⟩) .leaf))
theorem f47_x {a0_0 : Int} {a0_1 : Int} {a0_2 : Int} {a0_3 : Int} {a0_4 : Int} {a1 : Int} {V : View} {Q : Value → View → Prop} (h : f47_n a0_0 a0_1 a0_2 a0_3 a0_4 a1 V Q) : CallV Tryz.prog 47 ⟨[(.agg ⟨[(.int .i64 a0_0), (.int .i64 a0_1), (.int .i64 a0_2), (.int .i64 a0_3), (.int .i64 a0_4)]⟩), (.int .i64 a1)]⟩ V Q :=
  XF_sound (wr := false) Tryz.checked.mixed (enters_of (fn := Tryz.f47) (by kernel_rfl) (by kernel_rfl) (by kernel_rfl)) (fn := Tryz.f47) (by kernel_rfl) (ac := f47_ac)
    (Eq.mp (show f47_n a0_0 a0_1 a0_2 a0_3 a0_4 a1 V Q = XF Tryz.prog false Tryz.f47 (f47_ac) [(.agg ⟨[(.int .i64 a0_0), (.int .i64 a0_1), (.int .i64 a0_2), (.int .i64 a0_3), (.int .i64 a0_4)]⟩), (.int .i64 a1)] V Q from by kernel_rfl) h)
/-- potsherd/pool.wrong -/
def f48_n (a0 : Option Addr) (a1 : Sl) (V : View) (Q : Value → View → Prop) : Prop :=
    CallV Tryz.prog (49 : Nat) (Array.mk []) V fun (r : Value) (V : View) => ∃ (x : Option Addr), r = Value.pointer x ∧ loopP [K.int IntKind.i64] (fun (x_1 : Int) (V : View) (J : CurP [K.int IntKind.i64]) => br (decide (x_1 < (↑(Sl.n a1) : Int))) ((0 : Int) ≤ x_1 ∧ x_1 < (↑(Sl.n a1) : Int) ∧ ∃ (ad : Addr), Sl.a a1 = some ad ∧ ∃ (x_2 : Int), ∃ (x_3 : Int), ∃ (x_4 : Int), ∃ (x_5 : Int), cellsAt V (Addr.add ad (Int.toNat x_1 * (4 : Nat))) [Value.int IntKind.i64 x_2, Value.int IntKind.i64 x_3, Value.int IntKind.i64 x_4, Value.int IntKind.i64 x_5] ∧ ∀ (b : Nat), View.see V b = none → canSet (View.put V b (Obj.cells (Array.mk [Value.int IntKind.i64 (0 : Int), Value.int IntKind.i64 (0 : Int), Value.int IntKind.i64 (0 : Int), Value.int IntKind.i64 (0 : Int)]) (52 : Nat))) (Addr.mk b (0 : Nat) none) (Nat.succ (Nat.succ (Nat.succ (nat_lit 1)))) ∧ joinP [K.bool] (fun (J : CurP [K.bool]) => (0 : Int) ≤ (0 : Int) ∧ (0 : Int) ≤ x_1 ∧ x_1 ≤ (↑(Sl.c a1) : Int) ∧ CallV Tryz.prog (88 : Nat) (Array.mk [Value.slice (if Sl.c a1 = (0 : Nat) then Sl.a a1 else Option.map (fun (x : Addr) => Addr.add x (0 : Nat)) (Sl.a a1)) (Int.toNat x_1 - (0 : Nat)) (Sl.c a1 - (0 : Nat)), Value.func (Fn.func (89 : Nat)) (Array.mk []) (Array.mk [Value.pointer (some (Addr.mk b (0 : Nat) none))])]) (View.sets (View.put V b (Obj.cells (Array.mk [Value.int IntKind.i64 (0 : Int), Value.int IntKind.i64 (0 : Int), Value.int IntKind.i64 (0 : Int), Value.int IntKind.i64 (0 : Int)]) (52 : Nat))) (Addr.mk b (0 : Nat) none) [Value.int IntKind.i64 x_2, Value.int IntKind.i64 x_3, Value.int IntKind.i64 x_4, Value.int IntKind.i64 x_5]) fun (r : Value) (V : View) => ∃ (x_6 : Bool), r = Value.bool x_6 ∧ br x_6 (J true V) (∃ (x_7 : Int), ∃ (x_8 : Int), cellsAt V (Addr.mk b (0 : Nat) none) [Value.int IntKind.i64 x_7, Value.int IntKind.i64 x_8] ∧ ∃ (x_9 : Int), ∃ (x_10 : Int), cellsAt V (Addr.mk b (2 : Nat) none) [Value.int IntKind.i64 x_9, Value.int IntKind.i64 x_10] ∧ CallV Tryz.prog (50 : Nat) (Array.mk [Value.pointer x, Value.agg (Array.mk [Value.int IntKind.i64 x_7, Value.int IntKind.i64 x_8]), Value.agg (Array.mk [Value.int IntKind.i64 x_9, Value.int IntKind.i64 x_10])]) V fun (r : Value) (V : View) => ∃ (x : Bool), r = Value.bool x ∧ J (!x) V)) fun (x : Bool) (V : View) => br x (Q (Value.bool true) V) (∃ (x : Int), ∃ (x_6 : Int), cellsAt V (Addr.mk b (2 : Nat) none) [Value.int IntKind.i64 x, Value.int IntKind.i64 x_6] ∧ CallV Tryz.prog (90 : Nat) (Array.mk [Value.pointer a0, Value.agg (Array.mk [Value.int IntKind.i64 x, Value.int IntKind.i64 x_6])]) V fun (r : Value) (V : View) => ∃ (x : Sl), ∃ (x_7 : Int), r = Value.tuple (Array.mk [Value.slice (Sl.a x) (Sl.n x) (Sl.c x), Value.int IntKind.i64 x_7]) ∧ br (!decide (x_7 = (0 : Int))) (Q (Value.bool true) V) (CallV Tryz.prog (46 : Nat) (Array.mk [Value.slice (Sl.a x) (Sl.n x) (Sl.c x)]) V fun (r : Value) (V : View) => ∃ (x : Int), ∃ (x_8 : Int), ∃ (x_9 : Sl), ∃ (x_10 : Int), r = Value.tuple (Array.mk [Value.agg (Array.mk [Value.int IntKind.i64 x, Value.int IntKind.i64 x_8, Value.slice (Sl.a x_9) (Sl.n x_9) (Sl.c x_9)]), Value.int IntKind.i64 x_10]) ∧ ∀ (b_1 : Nat), br (!decide (x_10 = (0 : Int))) (Q (Value.bool true) V) (∃ (x_11 : Int), View.cell? V (Addr.mk b (0 : Nat) none) = some (Value.int IntKind.i64 x_11) ∧ br (!decide (x = x_11)) (Q (Value.bool true) V) (∃ (x : Int), View.cell? V (Addr.mk b (1 : Nat) none) = some (Value.int IntKind.i64 x) ∧ br (!decide (x_8 = x)) (Q (Value.bool true) V) (inI IntKind.i64 (x_1 + (1 : Int)) ∧ J (x_1 + (1 : Int)) V)))))) (Q (Value.bool false) V)) ((0 : Int), ()) V
def f48_ac : AC := (.seq (.reg ⟨.done, false, [], [], none⟩) (.seq (.reg ⟨.done, false, [], [], none⟩) (.seq (.seq (.reg ⟨.done, false, [], [], none⟩) (.block none (.loop ⟨[6, 7, 8, 9, 10, 15, 16, 17, 18, 19, 20, 21, 22, 23, 24, 25, 26, 27, 28, 29, 30, 31, 32, 33, 34, 35, 36, 37, 38, 39, 40, 41, 42, 43, 44, 45, 46, 47, 48, 49, 50, 51, 52, 53, 54, 55, 56, 57, 58, 59, 60, 61, 62, 63, 64, 65], [(14, .int .i64)], []⟩ (.seq (.reg ⟨.done, false, [], [], none⟩) (.seq (.cond none .leaf .leaf) (.seq (.block none (.seq (.reg ⟨.done, false, [(4, 0)], [], none⟩) (.seq (.seq (.reg ⟨.done, false, [], [], (some ⟨[19, 20, 21, 22, 23, 24, 25, 26, 27, 28, 29, 30, 31], [(32, .bool)], []⟩)⟩) (.cond none (.seq (.reg ⟨.done, false, [], [], none⟩) .leaf) .leaf)) (.seq (.reg ⟨.done, false, [], [], none⟩) (.seq (.seq (.reg ⟨.done, false, [], [], none⟩) (.cond none (.seq (.reg ⟨.done, false, [], [], none⟩) .leaf) .leaf)) (.seq (.reg ⟨.done, false, [], [], none⟩) (.seq (.reg ⟨.done, false, [], [], none⟩) (.cond none (.seq (.reg ⟨.done, false, [], [], none⟩) .leaf) .leaf)))))))) (.reg ⟨.done, false, [], [], none⟩))))))) (.seq (.reg ⟨.done, false, [], [], none⟩) .leaf))))
theorem f48_x {a0 : Option Addr} {a1 : Sl} {V : View} {Q : Value → View → Prop} (h : f48_n a0 a1 V Q) : CallV Tryz.prog 48 ⟨[(.pointer a0), (.slice a1.a a1.n a1.c)]⟩ V Q :=
  XF_sound (wr := false) Tryz.checked.mixed (enters_of (fn := Tryz.f48) (by kernel_rfl) (by kernel_rfl) (by kernel_rfl)) (fn := Tryz.f48) (by kernel_rfl) (ac := f48_ac)
    (Eq.mp (show f48_n a0 a1 V Q = XF Tryz.prog false Tryz.f48 (f48_ac) [(.pointer a0), (.slice a1.a a1.n a1.c)] V Q from by kernel_rfl) h)
/-- potsherd/place.New -/
def f49_n (V : View) (Q : Value → View → Prop) : Prop :=
    newB V (Obj.map (Array.mk []) (0 : Nat)) fun (r : Nat) (V : View) => newB V (Obj.map (Array.mk []) (0 : Nat)) fun (r_1 : Nat) (V : View) => ∀ (b : Nat), View.see V b = none → Q (Value.pointer (some (Addr.mk b (0 : Nat) none))) (View.put V b (Obj.cells (Array.mk [Value.map (some r), Value.map (some r_1)]) (133 : Nat)))
def f49_ac : AC := (.seq (.reg ⟨.done, false, [], [], none⟩) (.seq (.reg ⟨.done, false, [(4, 0)], [], none⟩) .leaf))
theorem f49_x {_u : Unit} {V : View} {Q : Value → View → Prop} (h : f49_n V Q) : CallV Tryz.prog 49 ⟨[]⟩ V Q :=
  XF_sound (wr := false) Tryz.checked.mixed (enters_of (fn := Tryz.f49) (by kernel_rfl) (by kernel_rfl) (by kernel_rfl)) (fn := Tryz.f49) (by kernel_rfl) (ac := f49_ac)
    (Eq.mp (show f49_n V Q = XF Tryz.prog false Tryz.f49 (f49_ac) [] V Q from by kernel_rfl) h)
/-- (*potsherd/place.Table).Put -/
def f50_n (a0 : Option Addr) (a1_0 : Int) (a1_1 : Int) (a2_0 : Int) (a2_1 : Int) (V : View) (Q : Value → View → Prop) : Prop :=
    ∀ (b b : Nat), br (bif bif Option.isNone a0 then true else decide (a2_0 < (0 : Int)) then true else decide (a2_1 < (0 : Int))) (Q (Value.bool false) V) (True ∧ ∃ (S : View), View.Le S V ∧ ∃ (a : Addr), a0 = some a ∧ ∃ (x : Option Nat), View.cell? S (Addr.add a (1 : Nat)) = some (Value.map x) ∧ True ∧ mapG S x (Value.agg (Array.mk [Value.int IntKind.i64 a2_0, Value.int IntKind.i64 a2_1])) fun (f : Option (Nat × Value)) => ∃ (x : Int), ∃ (x_1 : Int), found (Value.agg (Array.mk [Value.int IntKind.i64 (0 : Int), Value.int IntKind.i64 (0 : Int)])) f = Value.agg (Array.mk [Value.int IntKind.i64 x, Value.int IntKind.i64 x_1]) ∧ ∀ (b : Nat), View.Le S V ∧ joinP [K.bool] (fun (J : CurP [K.bool]) => br (Option.isSome f) (True ∧ J (!(decide (x = a1_0) && (decide (x_1 = a1_1) && true))) V) (J false V)) fun (x : Bool) (V : View) => br x (Q (Value.bool false) V) (CallV Tryz.prog (38 : Nat) (Array.mk [Value.pointer a0, Value.agg (Array.mk [Value.int IntKind.i64 a1_0, Value.int IntKind.i64 a1_1])]) V fun (r : Value) (V : View) => ∃ (x : Bool), r = Value.bool x ∧ True ∧ ∃ (S : View), View.Le S V ∧ ∃ (a : Addr), a0 = some a ∧ ∃ (x : Option Nat), View.cell? S (Addr.add a (0 : Nat)) = some (Value.map x) ∧ ∃ (a : Addr), a0 = some a ∧ ∃ (x_2 : Option Nat), View.cell? S (Addr.add a (1 : Nat)) = some (Value.map x_2) ∧ True ∧ mapW V x (Value.agg (Array.mk [Value.int IntKind.i64 a1_0, Value.int IntKind.i64 a1_1])) fun (r : Nat) (es : Array MapEntry) (cl : Nat) (f : Option (Nat × Value)) => ∃ (x_3 : Int), ∃ (x_4 : Int), found (Value.agg (Array.mk [Value.int IntKind.i64 (0 : Int), Value.int IntKind.i64 (0 : Int)])) f = Value.agg (Array.mk [Value.int IntKind.i64 x_3, Value.int IntKind.i64 x_4]) ∧ View.Le S (View.put V r (mput es cl f (Value.agg (Array.mk [Value.int IntKind.i64 a1_0, Value.int IntKind.i64 a1_1])) (Value.agg (Array.mk [Value.int IntKind.i64 x_3, Value.int IntKind.i64 x_4])))) ∧ mapS (View.put V r (mput es cl f (Value.agg (Array.mk [Value.int IntKind.i64 a1_0, Value.int IntKind.i64 a1_1])) (Value.agg (Array.mk [Value.int IntKind.i64 x_3, Value.int IntKind.i64 x_4])))) x (↑(mborn es cl f) : Int) (Value.agg (Array.mk [Value.int IntKind.i64 a2_0, Value.int IntKind.i64 a2_1])) fun (V : View) => View.Le S V ∧ True ∧ mapW V x_2 (Value.agg (Array.mk [Value.int IntKind.i64 a2_0, Value.int IntKind.i64 a2_1])) fun (r : Nat) (es : Array MapEntry) (cl : Nat) (f : Option (Nat × Value)) => ∃ (x : Int), ∃ (x_5 : Int), found (Value.agg (Array.mk [Value.int IntKind.i64 (0 : Int), Value.int IntKind.i64 (0 : Int)])) f = Value.agg (Array.mk [Value.int IntKind.i64 x, Value.int IntKind.i64 x_5]) ∧ View.Le S (View.put V r (mput es cl f (Value.agg (Array.mk [Value.int IntKind.i64 a2_0, Value.int IntKind.i64 a2_1])) (Value.agg (Array.mk [Value.int IntKind.i64 x, Value.int IntKind.i64 x_5])))) ∧ mapS (View.put V r (mput es cl f (Value.agg (Array.mk [Value.int IntKind.i64 a2_0, Value.int IntKind.i64 a2_1])) (Value.agg (Array.mk [Value.int IntKind.i64 x, Value.int IntKind.i64 x_5])))) x_2 (↑(mborn es cl f) : Int) (Value.agg (Array.mk [Value.int IntKind.i64 a1_0, Value.int IntKind.i64 a1_1])) fun (V : View) => Q (Value.bool true) V))
def f50_ac : AC := (.seq (.reg ⟨.done, false, [], [], none⟩) (.seq (.seq (.reg ⟨.done, false, [], [], none⟩) (.cond none (.seq (.reg ⟨.done, false, [], [], none⟩) .leaf) .leaf)) (.seq (.seq (.reg ⟨(.fl 0 (.fl 1 (.fl 2 (.fl 3 (.fl 4 (.fl 5 (.fl 6 (.fl 7 (.fl 8 (.alt 9 true false (.alt 10 false false (.fl 11 .done) .no) .no)))))))))), true, [], [], none⟩) (.seq (.reg ⟨.done, false, [], [], (some ⟨[30, 31, 32, 33, 34], [(35, .bool)], []⟩)⟩) (.cond none (.seq (.reg ⟨.done, false, [], [], none⟩) .leaf) .leaf))) (.seq (.reg ⟨.done, false, [], [], none⟩) (.seq (.reg ⟨(.fl 0 (.fl 1 (.fl 2 (.fl 3 (.fl 4 (.fl 5 (.fl 6 (.fl 7 (.fl 8 (.fl 9 (.fl 10 (.fl 11 (.alt 12 true false (.fl 13 (.alt 14 true false (.alt 15 true false (.fl 16 (.alt 17 false false .done .no)) .no) .no)) .no))))))))))))), true, [], [], none⟩) (.seq (.reg ⟨.done, false, [], [], none⟩) .leaf))))))
theorem f50_x {a0 : Option Addr} {a1_0 : Int} {a1_1 : Int} {a2_0 : Int} {a2_1 : Int} {V : View} {Q : Value → View → Prop} (h : f50_n a0 a1_0 a1_1 a2_0 a2_1 V Q) : CallV Tryz.prog 50 ⟨[(.pointer a0), (.agg ⟨[(.int .i64 a1_0), (.int .i64 a1_1)]⟩), (.agg ⟨[(.int .i64 a2_0), (.int .i64 a2_1)]⟩)]⟩ V Q :=
  XF_sound (wr := false) Tryz.checked.mixed (enters_of (fn := Tryz.f50) (by kernel_rfl) (by kernel_rfl) (by kernel_rfl)) (fn := Tryz.f50) (by kernel_rfl) (ac := f50_ac)
    (Eq.mp (show f50_n a0 a1_0 a1_1 a2_0 a2_1 V Q = XF Tryz.prog false Tryz.f50 (f50_ac) [(.pointer a0), (.agg ⟨[(.int .i64 a1_0), (.int .i64 a1_1)]⟩), (.agg ⟨[(.int .i64 a2_0), (.int .i64 a2_1)]⟩)] V Q from by kernel_rfl) h)
/-- (*potsherd/pool.Pool).seal -/
def f51_n (a0 : Option Addr) (a1 : Sl) (a2 : Sl) (V : View) (Q : Value → View → Prop) : Prop :=
    joinP [K.bool] (fun (J : CurP [K.bool]) => CallV Tryz.prog (39 : Nat) (Array.mk [Value.pointer a0, Value.int IntKind.i64 (0 : Int), Value.slice (Sl.a a1) (Sl.n a1) (Sl.c a1)]) V fun (r : Value) (V : View) => ∃ (x : Bool), r = Value.bool x ∧ br (!x) (J true V) (CallV Tryz.prog (91 : Nat) (Array.mk [Value.pointer a0, Value.slice (Sl.a a2) (Sl.n a2) (Sl.c a2)]) V fun (r : Value) (V : View) => ∃ (x : Bool), r = Value.bool x ∧ J x V)) fun (x : Bool) (V : View) => br x (Q (Value.int IntKind.i64 (1 : Int)) V) (CallV Tryz.prog (41 : Nat) (Array.mk [Value.pointer a0]) V fun (r : Value) (V : View) => ∃ (x : Int), r = Value.int IntKind.i64 x ∧ br (!decide (x = (0 : Int))) (Q (Value.int IntKind.i64 x) V) (CallV Tryz.prog (42 : Nat) (Array.mk [Value.pointer a0, Value.int IntKind.i64 (0 : Int), Value.slice (Sl.a a1) (Sl.n a1) (Sl.c a1)]) V fun (r : Value) (V : View) => ∃ (x : Int), ∃ (x_1 : Int), ∃ (x_2 : Int), r = Value.tuple (Array.mk [Value.agg (Array.mk [Value.int IntKind.i64 x, Value.int IntKind.i64 x_1]), Value.int IntKind.i64 x_2]) ∧ ∀ (b : Nat), br (!decide (x_2 = (0 : Int))) (Q (Value.int IntKind.i64 x_2) V) (∃ (a : Addr), a0 = some a ∧ ∃ (x_3 : Option Addr), View.cell? V (Addr.add a (7 : Nat)) = some (Value.pointer x_3) ∧ CallV Tryz.prog (53 : Nat) (Array.mk [Value.pointer x_3]) V fun (r : Value) (V : View) => ∃ (x_4 : Sl), r = Value.slice (Sl.a x_4) (Sl.n x_4) (Sl.c x_4) ∧ loopP [K.int IntKind.i64] (fun (x_5 : Int) (V : View) (J : CurP [K.int IntKind.i64]) => br (decide (x_5 < (↑(Sl.n x_4) : Int))) ((0 : Int) ≤ x_5 ∧ x_5 < (↑(Sl.n x_4) : Int) ∧ ∃ (ad : Addr), Sl.a x_4 = some ad ∧ ∃ (x_6 : Int), ∃ (x_7 : Int), ∃ (x_8 : Int), ∃ (x_9 : Int), cellsAt V (Addr.add ad (Int.toNat x_5 * (4 : Nat))) [Value.int IntKind.i64 x_6, Value.int IntKind.i64 x_7, Value.int IntKind.i64 x_8, Value.int IntKind.i64 x_9] ∧ ∀ (b : Nat), joinP [K.bool] (fun (J : CurP [K.bool]) => True ∧ br (!(decide (x_6 = x) && (decide (x_7 = x_1) && true))) (CallV Tryz.prog (55 : Nat) (Array.mk [Value.slice (Sl.a a2) (Sl.n a2) (Sl.c a2), Value.agg (Array.mk [Value.int IntKind.i64 x_6, Value.int IntKind.i64 x_7])]) V fun (r : Value) (V : View) => ∃ (x : Bool), r = Value.bool x ∧ J (!x) V) (J false V)) fun (x : Bool) (V : View) => joinP [] (fun (J : CurP []) => br x (True ∧ ∃ (S : View), View.Le S V ∧ ∃ (a : Addr), a0 = some a ∧ ∃ (x : Option Addr), View.cell? S (Addr.add a (7 : Nat)) = some (Value.pointer x) ∧ CallV Tryz.prog (38 : Nat) (Array.mk [Value.pointer x, Value.agg (Array.mk [Value.int IntKind.i64 x_6, Value.int IntKind.i64 x_7])]) V fun (r : Value) (V : View) => ∃ (x : Bool), r = Value.bool x ∧ J V) (J V)) fun (V : View) => inI IntKind.i64 (x_5 + (1 : Int)) ∧ J (x_5 + (1 : Int)) V) (∃ (a : Addr), a0 = some a ∧ canSet V (Addr.add a (8 : Nat)) (1 : Nat) ∧ Q (Value.int IntKind.i64 (0 : Int)) (View.sets V (Addr.add a (8 : Nat)) [Value.slice none (0 : Nat) (0 : Nat)]))) ((0 : Int), ()) V)))
def f51_ac : AC := (.seq (.reg ⟨.done, false, [], [], none⟩) (.seq (.seq (.reg ⟨.done, false, [], [], (some ⟨[12, 13, 14, 15, 16, 17, 18, 19], [(20, .bool)], []⟩)⟩) (.cond none (.seq (.reg ⟨.done, false, [], [], none⟩) .leaf) .leaf)) (.seq (.seq (.reg ⟨.done, false, [], [], none⟩) (.seq (.reg ⟨.done, false, [], [], none⟩) (.cond none (.seq (.reg ⟨.done, false, [], [], none⟩) .leaf) .leaf))) (.seq (.reg ⟨.done, false, [], [], none⟩) (.seq (.seq (.reg ⟨.done, false, [], [], none⟩) (.cond none (.seq (.reg ⟨.done, false, [], [], none⟩) .leaf) .leaf)) (.seq (.seq (.reg ⟨.done, false, [], [], none⟩) (.block none (.loop ⟨[11, 42, 43, 44, 45, 46, 47, 48, 49, 50, 51, 52, 53, 54, 55, 56, 57, 58, 59, 60, 61, 62, 63], [(41, .int .i64)], []⟩ (.seq (.reg ⟨.done, false, [], [], none⟩) (.seq (.cond none .leaf .leaf) (.seq (.block none (.seq (.reg ⟨.done, false, [], [], none⟩) (.seq (.reg ⟨.done, false, [], [], (some ⟨[45, 46, 47, 48, 49, 50, 51, 52, 53, 54], [(55, .bool)], []⟩)⟩) (.cond (some ⟨[56, 57, 58, 59, 60, 61, 62], [], []⟩) (.reg ⟨(.fl 0 (.fl 1 (.fl 2 (.fl 3 (.fl 4 (.fl 5 (.alt 6 false false .done .no))))))), true, [], [], none⟩) .leaf)))) (.reg ⟨.done, false, [], [], none⟩))))))) (.seq (.reg ⟨.done, false, [], [], none⟩) (.seq (.reg ⟨.done, false, [], [], none⟩) .leaf))))))))
theorem f51_x {a0 : Option Addr} {a1 : Sl} {a2 : Sl} {V : View} {Q : Value → View → Prop} (h : f51_n a0 a1 a2 V Q) : CallV Tryz.prog 51 ⟨[(.pointer a0), (.slice a1.a a1.n a1.c), (.slice a2.a a2.n a2.c)]⟩ V Q :=
  XF_sound (wr := false) Tryz.checked.mixed (enters_of (fn := Tryz.f51) (by kernel_rfl) (by kernel_rfl) (by kernel_rfl)) (fn := Tryz.f51) (by kernel_rfl) (ac := f51_ac)
    (Eq.mp (show f51_n a0 a1 a2 V Q = XF Tryz.prog false Tryz.f51 (f51_ac) [(.pointer a0), (.slice a1.a a1.n a1.c), (.slice a2.a a2.n a2.c)] V Q from by kernel_rfl) h)
/-- slices.DeleteFunc[[]potsherd/api.Found,potsherd/api.Found] -/
def f52_n (a0 : Sl) (g1 : FuncId) (x1 : List Value) (y1 : List Value) (V : View) (Q : Value → View → Prop) : Prop :=
    CallV Tryz.prog (92 : Nat) (Array.mk [Value.slice (Sl.a a0) (Sl.n a0) (Sl.c a0), Value.func (Fn.func g1) (Array.mk x1) (Array.mk y1)]) V fun (r : Value) (V : View) => ∃ (x : Int), r = Value.int IntKind.i64 x ∧ br (decide (x = (-1 : Int))) (Q (Value.slice (Sl.a a0) (Sl.n a0) (Sl.c a0)) V) (inI IntKind.i64 (x + (1 : Int)) ∧ loopP [K.int IntKind.i64, K.int IntKind.i64] (fun (x x_1 : Int) (V : View) (J : CurP [K.int IntKind.i64, K.int IntKind.i64]) => br (decide (x_1 < (↑(Sl.n a0) : Int))) ((0 : Int) ≤ x_1 ∧ x_1 < (↑(Sl.n a0) : Int) ∧ ∃ (ad : Addr), Sl.a a0 = some ad ∧ ∃ (x_2 : Int), ∃ (x_3 : Int), ∃ (x_4 : Int), ∃ (x_5 : Int), cellsAt V (Addr.add ad (Int.toNat x_1 * (4 : Nat))) [Value.int IntKind.i64 x_2, Value.int IntKind.i64 x_3, Value.int IntKind.i64 x_4, Value.int IntKind.i64 x_5] ∧ ∀ (b : Nat), CallV Tryz.prog g1 (Array.mk (Array.toList (Array.mk x1) ++ [Value.agg (Array.mk [Value.int IntKind.i64 x_2, Value.int IntKind.i64 x_3, Value.int IntKind.i64 x_4, Value.int IntKind.i64 x_5])] ++ Array.toList (Array.mk y1))) V fun (r : Value) (V : View) => ∃ (x_6 : Bool), r = Value.bool x_6 ∧ joinP [K.int IntKind.i64] (fun (J : CurP [K.int IntKind.i64]) => br (!x_6) ((0 : Int) ≤ x ∧ x < (↑(Sl.n a0) : Int) ∧ ∃ (ad : Addr), Sl.a a0 = some ad ∧ canSet V (Addr.add ad (Int.toNat x * (4 : Nat))) (Nat.succ (Nat.succ (Nat.succ (nat_lit 1)))) ∧ inI IntKind.i64 (x + (1 : Int)) ∧ J (x + (1 : Int)) (View.sets V (Addr.add ad (Int.toNat x * (4 : Nat))) [Value.int IntKind.i64 x_2, Value.int IntKind.i64 x_3, Value.int IntKind.i64 x_4, Value.int IntKind.i64 x_5])) (J x V)) fun (x : Int) (V : View) => inI IntKind.i64 (x_1 + (1 : Int)) ∧ J x (x_1 + (1 : Int)) V) ((0 : Int) ≤ x ∧ x ≤ (↑(Sl.n a0) : Int) ∧ (↑(Sl.n a0) : Int) ≤ (↑(Sl.c a0) : Int) ∧ (Int.toNat (↑(Sl.n a0) : Int) - Int.toNat x = (0 : Nat) → (0 : Int) ≤ (0 : Int) ∧ (0 : Int) ≤ x ∧ x ≤ (↑(Sl.c a0) : Int) ∧ Q (Value.slice (if Sl.c a0 = (0 : Nat) then Sl.a a0 else Option.map (fun (x : Addr) => Addr.add x (0 : Nat)) (Sl.a a0)) (Int.toNat x - (0 : Nat)) (Sl.c a0 - (0 : Nat))) V) ∧ ((0 : Nat) < Int.toNat (↑(Sl.n a0) : Int) - Int.toNat x → match if Sl.c a0 = Int.toNat x then Sl.a a0 else Option.map (fun (x_2 : Addr) => Addr.add x_2 (Int.toNat x * (4 : Nat))) (Sl.a a0) with | none => (0 : Int) ≤ (0 : Int) ∧ (0 : Int) ≤ x ∧ x ≤ (↑(Sl.c a0) : Int) ∧ Q (Value.slice (if Sl.c a0 = (0 : Nat) then Sl.a a0 else Option.map (fun (x : Addr) => Addr.add x (0 : Nat)) (Sl.a a0)) (Int.toNat x - (0 : Nat)) (Sl.c a0 - (0 : Nat))) V | some ad => (List.all (List.flatten (List.replicate (Int.toNat (↑(Sl.n a0) : Int) - Int.toNat x) [Value.int IntKind.i64 (0 : Int), Value.int IntKind.i64 (0 : Int), Value.int IntKind.i64 (0 : Int), Value.int IntKind.i64 (0 : Int)])) fun (x : Value) => Value.oneCell' x) = true ∧ canSet V ad (List.length (List.flatten (List.replicate (Int.toNat (↑(Sl.n a0) : Int) - Int.toNat x) [Value.int IntKind.i64 (0 : Int), Value.int IntKind.i64 (0 : Int), Value.int IntKind.i64 (0 : Int), Value.int IntKind.i64 (0 : Int)]))) ∧ (0 : Int) ≤ (0 : Int) ∧ (0 : Int) ≤ x ∧ x ≤ (↑(Sl.c a0) : Int) ∧ Q (Value.slice (if Sl.c a0 = (0 : Nat) then Sl.a a0 else Option.map (fun (x : Addr) => Addr.add x (0 : Nat)) (Sl.a a0)) (Int.toNat x - (0 : Nat)) (Sl.c a0 - (0 : Nat))) (View.sets V ad (List.flatten (List.replicate (Int.toNat (↑(Sl.n a0) : Int) - Int.toNat x) [Value.int IntKind.i64 (0 : Int), Value.int IntKind.i64 (0 : Int), Value.int IntKind.i64 (0 : Int), Value.int IntKind.i64 (0 : Int)])))))) (x, x + (1 : Int), ()) V)
def f52_ac : AC := (.seq (.reg ⟨.done, false, [], [], none⟩) (.seq (.reg ⟨.done, false, [], [], none⟩) (.seq (.seq (.reg ⟨.done, false, [], [], none⟩) (.cond none (.seq (.reg ⟨.done, false, [], [], none⟩) .leaf) .leaf)) (.seq (.seq (.reg ⟨.done, false, [], [], none⟩) (.block none (.loop ⟨[7, 16, 17, 18, 19, 20, 21, 22, 23, 24, 25, 26, 27, 28, 29, 30, 31, 32, 33, 34, 35], [(5, .int .i64), (6, .int .i64)], []⟩ (.seq (.seq (.reg ⟨.done, false, [], [], none⟩) (.cond none .leaf .leaf)) (.seq (.block none (.seq (.reg ⟨.done, false, [], [], none⟩) (.seq (.reg ⟨.done, false, [], [], none⟩) (.cond (some ⟨[30, 31, 32, 33, 34, 35], [(5, .int .i64)], []⟩) (.seq (.reg ⟨.done, false, [], [], none⟩) (.reg ⟨.done, false, [], [], none⟩)) .leaf)))) (.reg ⟨.done, false, [], [], none⟩)))))) (.seq (.reg ⟨.done, false, [], [], none⟩) (.seq (.reg ⟨.done, false, [], [], none⟩) .leaf))))))
theorem f52_x {a0 : Sl} {g1 : FuncId} {x1 : List Value} {y1 : List Value} {V : View} {Q : Value → View → Prop} (h : f52_n a0 g1 x1 y1 V Q) : CallV Tryz.prog 52 ⟨[(.slice a0.a a0.n a0.c), (.func (.func g1) ⟨x1⟩ ⟨y1⟩)]⟩ V Q :=
  XF_sound (wr := false) Tryz.checked.mixed (enters_of (fn := Tryz.f52) (by kernel_rfl) (by kernel_rfl) (by kernel_rfl)) (fn := Tryz.f52) (by kernel_rfl) (ac := f52_ac)
    (Eq.mp (show f52_n a0 g1 x1 y1 V Q = XF Tryz.prog false Tryz.f52 (f52_ac) [(.slice a0.a a0.n a0.c), (.func (.func g1) ⟨x1⟩ ⟨y1⟩)] V Q from by kernel_rfl) h)
/-- (*potsherd/place.Table).All -/
def f53_n (a0 : Option Addr) (V : View) (Q : Value → View → Prop) : Prop :=
    br (Option.isNone a0) (Q (Value.slice none (0 : Nat) (0 : Nat)) V) (∃ (a : Addr), a0 = some a ∧ ∃ (x : Option Nat), View.cell? V (Addr.add a (1 : Nat)) = some (Value.map x) ∧ rangeM V x fun (r : Nat) (V : View) => loopP [K.sl] (fun (x : Sl) (V : View) (J : CurP [K.sl]) => nextM V r (fun (k v : Value) (V : View) => entryM V r fun (k v : Value) => ∃ (x_1 : Int), ∃ (x_2 : Int), ∃ (x_3 : Int), ∃ (x_4 : Int), k = Value.agg (Array.mk [Value.int IntKind.i64 x_1, Value.int IntKind.i64 x_2]) ∧ v = Value.agg (Array.mk [Value.int IntKind.i64 x_3, Value.int IntKind.i64 x_4]) ∧ ∀ (b b : Nat), newB V (Obj.cells (Array.mk (putL [Value.int IntKind.i64 (0 : Int), Value.int IntKind.i64 (0 : Int), Value.int IntKind.i64 (0 : Int), Value.int IntKind.i64 (0 : Int)] (0 : Nat) [Value.int IntKind.i64 x_3, Value.int IntKind.i64 x_4, Value.int IntKind.i64 x_1, Value.int IntKind.i64 x_2])) (52 : Nat)) fun (r : Nat) (V : View) => apV V (52 : Nat) (4 : Nat) (32 : Nat) [Value.int IntKind.i64 (0 : Int), Value.int IntKind.i64 (0 : Int), Value.int IntKind.i64 (0 : Int), Value.int IntKind.i64 (0 : Int)] (Sl.mk (Sl.a x) (Sl.n x) (Sl.c x)) (Value.slice (some (Addr.mk r (0 : Nat) none)) (1 : Nat) (1 : Nat)) fun (s : Sl) (V : View) => J (Sl.mk (Sl.a s) (Sl.n s) (Sl.c s)) V) fun (V : View) => CallV Tryz.prog (93 : Nat) (Array.mk [Value.slice (Sl.a x) (Sl.n x) (Sl.c x), Value.func (Fn.func (94 : Nat)) (Array.mk []) (Array.mk [])]) V fun (r : Value) (V : View) => r = Value.tuple (Array.mk []) ∧ Q (Value.slice (Sl.a x) (Sl.n x) (Sl.c x)) V) (Sl.mk none (0 : Nat) (0 : Nat), ()) V)
def f53_ac : AC := (.seq (.reg ⟨.done, false, [], [], none⟩) (.seq (.seq (.reg ⟨.done, false, [], [], none⟩) (.cond none (.seq (.reg ⟨.done, false, [], [], none⟩) .leaf) .leaf)) (.seq (.reg ⟨.done, false, [], [], none⟩) (.seq (.seq (.reg ⟨.done, false, [], [], none⟩) (.block none (.loop ⟨[4, 5, 13, 14, 15, 16, 17, 18, 19, 20, 21, 22, 23], [(3, .sl)], []⟩ (.seq (.reg ⟨.done, false, [], [], none⟩) (.seq (.cond none .leaf .leaf) (.block none (.seq (.reg ⟨.done, false, [], [], none⟩) (.reg ⟨.done, false, [], [], none⟩)))))))) (.seq (.reg ⟨.done, false, [], [], none⟩) (.seq (.reg ⟨.done, false, [], [], none⟩) .leaf))))))
theorem f53_x {a0 : Option Addr} {V : View} {Q : Value → View → Prop} (h : f53_n a0 V Q) : CallV Tryz.prog 53 ⟨[(.pointer a0)]⟩ V Q :=
  XF_sound (wr := false) Tryz.checked.mixed (enters_of (fn := Tryz.f53) (by kernel_rfl) (by kernel_rfl) (by kernel_rfl)) (fn := Tryz.f53) (by kernel_rfl) (ac := f53_ac)
    (Eq.mp (show f53_n a0 V Q = XF Tryz.prog false Tryz.f53 (f53_ac) [(.pointer a0)] V Q from by kernel_rfl) h)
/-- (*potsherd/pool.Pool).Live$1 -/
def f54_n (a0_0 : Int) (a0_1 : Int) (a0_2 : Int) (a0_3 : Int) (z0 : Addr) (V : View) (Q : Value → View → Prop) : Prop :=
    ∀ (b : Nat), True ∧ ∃ (S : View), View.Le S V ∧ ∃ (x : Option Addr), View.cell? S z0 = some (Value.pointer x) ∧ ∃ (a : Addr), x = some a ∧ ∃ (x : Sl), View.cell? S (Addr.add a (8 : Nat)) = some (Value.slice (Sl.a x) (Sl.n x) (Sl.c x)) ∧ CallV Tryz.prog (55 : Nat) (Array.mk [Value.slice (Sl.a x) (Sl.n x) (Sl.c x), Value.agg (Array.mk [Value.int IntKind.i64 a0_0, Value.int IntKind.i64 a0_1])]) V fun (r : Value) (V : View) => ∃ (x : Bool), r = Value.bool x ∧ Q (Value.bool x) V
def f54_ac : AC := (.seq (.reg ⟨.done, false, [], [], none⟩) (.seq (.reg ⟨(.fl 0 (.fl 1 (.fl 2 (.fl 3 (.fl 4 (.fl 5 (.alt 6 false false (.fl 7 .done) .no))))))), true, [], [], none⟩) .leaf))
theorem f54_x {a0_0 : Int} {a0_1 : Int} {a0_2 : Int} {a0_3 : Int} {z0 : Addr} {V : View} {Q : Value → View → Prop} (h : f54_n a0_0 a0_1 a0_2 a0_3 z0 V Q) : CallV Tryz.prog 54 ⟨[(.agg ⟨[(.int .i64 a0_0), (.int .i64 a0_1), (.int .i64 a0_2), (.int .i64 a0_3)]⟩), (.pointer (some z0))]⟩ V Q :=
  XF_sound (wr := false) Tryz.checked.mixed (enters_of (fn := Tryz.f54) (by kernel_rfl) (by kernel_rfl) (by kernel_rfl)) (fn := Tryz.f54) (by kernel_rfl) (ac := f54_ac)
    (Eq.mp (show f54_n a0_0 a0_1 a0_2 a0_3 z0 V Q = XF Tryz.prog false Tryz.f54 (f54_ac) [(.agg ⟨[(.int .i64 a0_0), (.int .i64 a0_1), (.int .i64 a0_2), (.int .i64 a0_3)]⟩), (.pointer (some z0))] V Q from by kernel_rfl) h)
/-- slices.Contains[[]potsherd/api.Ref,potsherd/api.Ref] -/
def f55_n (a0 : Sl) (a1_0 : Int) (a1_1 : Int) (V : View) (Q : Value → View → Prop) : Prop :=
    ∀ (b : Nat), CallV Tryz.prog (95 : Nat) (Array.mk [Value.slice (Sl.a a0) (Sl.n a0) (Sl.c a0), Value.agg (Array.mk [Value.int IntKind.i64 a1_0, Value.int IntKind.i64 a1_1])]) V fun (r : Value) (V : View) => ∃ (x : Int), r = Value.int IntKind.i64 x ∧ Q (Value.bool (decide ((0 : Int) ≤ x))) V
def f55_ac : AC := (.seq (.reg ⟨.done, false, [], [], none⟩) (.seq (.reg ⟨.done, false, [], [], none⟩) .leaf))
theorem f55_x {a0 : Sl} {a1_0 : Int} {a1_1 : Int} {V : View} {Q : Value → View → Prop} (h : f55_n a0 a1_0 a1_1 V Q) : CallV Tryz.prog 55 ⟨[(.slice a0.a a0.n a0.c), (.agg ⟨[(.int .i64 a1_0), (.int .i64 a1_1)]⟩)]⟩ V Q :=
  XF_sound (wr := false) Tryz.checked.mixed (enters_of (fn := Tryz.f55) (by kernel_rfl) (by kernel_rfl) (by kernel_rfl)) (fn := Tryz.f55) (by kernel_rfl) (ac := f55_ac)
    (Eq.mp (show f55_n a0 a1_0 a1_1 V Q = XF Tryz.prog false Tryz.f55 (f55_ac) [(.slice a0.a a0.n a0.c), (.agg ⟨[(.int .i64 a1_0), (.int .i64 a1_1)]⟩)] V Q from by kernel_rfl) h)
/-- cmp.Or[int] -/
def f59_n (a0 : Sl) (V : View) (Q : Value → View → Prop) : Prop :=
    loopP [K.int IntKind.i64] (fun (x : Int) (V : View) (J : CurP [K.int IntKind.i64]) => br (decide (x < (↑(Sl.n a0) : Int))) ((0 : Int) ≤ x ∧ x < (↑(Sl.n a0) : Int) ∧ ∃ (ad : Addr), Sl.a a0 = some ad ∧ ∃ (x_1 : Int), View.cell? V (Addr.add ad (Int.toNat x * (1 : Nat))) = some (Value.int IntKind.i64 x_1) ∧ br (!decide (x_1 = (0 : Int))) (Q (Value.int IntKind.i64 x_1) V) (inI IntKind.i64 (x + (1 : Int)) ∧ J (x + (1 : Int)) V)) (Q (Value.int IntKind.i64 (0 : Int)) V)) ((0 : Int), ()) V
def f59_ac : AC := (.seq (.reg ⟨.done, false, [], [], none⟩) (.seq (.reg ⟨.done, false, [], [], none⟩) (.seq (.seq (.reg ⟨.done, false, [], [], none⟩) (.block none (.loop ⟨[5, 9, 10, 11, 12, 13, 14, 16], [(8, .int .i64)], []⟩ (.seq (.reg ⟨.done, false, [], [], none⟩) (.seq (.cond none .leaf .leaf) (.seq (.block none (.seq (.reg ⟨.done, false, [], [], none⟩) (.seq (.reg ⟨.done, false, [], [], none⟩) (.cond none (.seq (.reg ⟨.done, false, [], [], none⟩) .leaf) .leaf)))) (.reg ⟨.done, false, [], [], none⟩))))))) (.seq (.reg ⟨.done, false, [], [], none⟩) .leaf))))
theorem f59_x {a0 : Sl} {V : View} {Q : Value → View → Prop} (h : f59_n a0 V Q) : CallV Tryz.prog 59 ⟨[(.slice a0.a a0.n a0.c)]⟩ V Q :=
  XF_sound (wr := false) Tryz.checked.mixed (enters_of (fn := Tryz.f59) (by kernel_rfl) (by kernel_rfl) (by kernel_rfl)) (fn := Tryz.f59) (by kernel_rfl) (ac := f59_ac)
    (Eq.mp (show f59_n a0 V Q = XF Tryz.prog false Tryz.f59 (f59_ac) [(.slice a0.a a0.n a0.c)] V Q from by kernel_rfl) h)
/-- cmp.Compare[int] -/
def f60_n (a0 : Int) (a1 : Int) (V : View) (Q : Value → View → Prop) : Prop :=
    CallV Tryz.prog (99 : Nat) (Array.mk [Value.int IntKind.i64 a0]) V fun (r : Value) (V : View) => ∃ (x : Bool), r = Value.bool x ∧ CallV Tryz.prog (99 : Nat) (Array.mk [Value.int IntKind.i64 a1]) V fun (r : Value) (V : View) => ∃ (x_1 : Bool), r = Value.bool x_1 ∧ br x (br x_1 (Q (Value.int IntKind.i64 (0 : Int)) V) (Q (Value.int IntKind.i64 (-1 : Int)) V)) (br x_1 (Q (Value.int IntKind.i64 (1 : Int)) V) (br (decide (a0 < a1)) (Q (Value.int IntKind.i64 (-1 : Int)) V) (br (decide (a1 < a0)) (Q (Value.int IntKind.i64 (1 : Int)) V) (Q (Value.int IntKind.i64 (0 : Int)) V))))
def f60_ac : AC := (.seq (.reg ⟨.done, false, [], [], none⟩) (.seq (.reg ⟨.done, false, [], [], none⟩) (.seq (.reg ⟨.done, false, [], [], none⟩) (.seq (.seq (.reg ⟨.done, false, [], [], none⟩) (.cond none (.seq (.seq (.reg ⟨.done, false, [], [], none⟩) (.cond none (.seq (.reg ⟨.done, false, [], [], none⟩) .leaf) .leaf)) (.seq (.reg ⟨.done, false, [], [], none⟩) .leaf)) .leaf)) (.seq (.seq (.reg ⟨.done, false, [], [], none⟩) (.cond none (.seq (.reg ⟨.done, false, [], [], none⟩) .leaf) .leaf)) (.seq (.seq (.reg ⟨.done, false, [], [], none⟩) (.cond none (.seq (.reg ⟨.done, false, [], [], none⟩) .leaf) .leaf)) (.seq (.seq (.reg ⟨.done, false, [], [], none⟩) (.cond none (.seq (.reg ⟨.done, false, [], [], none⟩) .leaf) .leaf)) (.seq (.reg ⟨.done, false, [], [], none⟩) .leaf))))))))
theorem f60_x {a0 : Int} {a1 : Int} {V : View} {Q : Value → View → Prop} (h : f60_n a0 a1 V Q) : CallV Tryz.prog 60 ⟨[(.int .i64 a0), (.int .i64 a1)]⟩ V Q :=
  XF_sound (wr := false) Tryz.checked.mixed (enters_of (fn := Tryz.f60) (by kernel_rfl) (by kernel_rfl) (by kernel_rfl)) (fn := Tryz.f60) (by kernel_rfl) (ac := f60_ac)
    (Eq.mp (show f60_n a0 a1 V Q = XF Tryz.prog false Tryz.f60 (f60_ac) [(.int .i64 a0), (.int .i64 a1)] V Q from by kernel_rfl) h)
/-- slices.Contains[[]int,int] -/
def f62_n (a0 : Sl) (a1 : Int) (V : View) (Q : Value → View → Prop) : Prop :=
    CallV Tryz.prog (102 : Nat) (Array.mk [Value.slice (Sl.a a0) (Sl.n a0) (Sl.c a0), Value.int IntKind.i64 a1]) V fun (r : Value) (V : View) => ∃ (x : Int), r = Value.int IntKind.i64 x ∧ Q (Value.bool (decide ((0 : Int) ≤ x))) V
def f62_ac : AC := (.seq (.reg ⟨.done, false, [], [], none⟩) (.seq (.reg ⟨.done, false, [], [], none⟩) .leaf))
theorem f62_x {a0 : Sl} {a1 : Int} {V : View} {Q : Value → View → Prop} (h : f62_n a0 a1 V Q) : CallV Tryz.prog 62 ⟨[(.slice a0.a a0.n a0.c), (.int .i64 a1)]⟩ V Q :=
  XF_sound (wr := false) Tryz.checked.mixed (enters_of (fn := Tryz.f62) (by kernel_rfl) (by kernel_rfl) (by kernel_rfl)) (fn := Tryz.f62) (by kernel_rfl) (ac := f62_ac)
    (Eq.mp (show f62_n a0 a1 V Q = XF Tryz.prog false Tryz.f62 (f62_ac) [(.slice a0.a a0.n a0.c), (.int .i64 a1)] V Q from by kernel_rfl) h)
/-- (*potsherd/chip.Chip).Block -/
def f69_n (a0 : Option Addr) (a1 : Int) (V : View) (Q : Value → View → Prop) : Prop :=
    ∀ (b : Nat), CallV Tryz.prog (112 : Nat) (Array.mk [Value.pointer a0, Value.int IntKind.i64 a1]) V fun (r : Value) (V : View) => ∃ (x : Bool), r = Value.bool x ∧ br (!x) (Q (Value.agg (Array.mk [Value.bool false, Value.int IntKind.i64 (0 : Int), Value.int IntKind.i64 (0 : Int), Value.slice none (0 : Nat) (0 : Nat)])) V) (∃ (a : Addr), a0 = some a ∧ ∃ (x : Sl), View.cell? V (Addr.add a (0 : Nat)) = some (Value.slice (Sl.a x) (Sl.n x) (Sl.c x)) ∧ (0 : Int) ≤ a1 ∧ a1 < (↑(Sl.n x) : Int) ∧ ∃ (ad : Addr), Sl.a x = some ad ∧ ∃ (x : Bool), ∃ (x_1 : Int), ∃ (x_2 : Int), ∃ (x_3 : Sl), cellsAt V (Addr.add ad (Int.toNat a1 * (4 : Nat))) [Value.bool x, Value.int IntKind.i64 x_1, Value.int IntKind.i64 x_2, Value.slice (Sl.a x_3) (Sl.n x_3) (Sl.c x_3)] ∧ ∀ (b : Nat), CallV Tryz.prog (113 : Nat) (Array.mk [Value.slice (Sl.a x_3) (Sl.n x_3) (Sl.c x_3)]) V fun (r : Value) (V : View) => ∃ (x_4 : Sl), r = Value.slice (Sl.a x_4) (Sl.n x_4) (Sl.c x_4) ∧ loopP [K.int IntKind.i64] (fun (x_5 : Int) (V : View) (J : CurP [K.int IntKind.i64]) => br (decide (x_5 < (↑(Sl.n x_4) : Int))) ((0 : Int) ≤ x_5 ∧ x_5 < (↑(Sl.n x_4) : Int) ∧ ∃ (ad : Addr), Sl.a x_4 = some ad ∧ ∃ (x : Sl), View.cell? V (Addr.add ad (Int.toNat x_5 * (1 : Nat))) = some (Value.slice (Sl.a x) (Sl.n x) (Sl.c x)) ∧ True ∧ ∃ (S : View), View.Le S V ∧ CallV Tryz.prog (78 : Nat) (Array.mk [Value.slice (Sl.a x) (Sl.n x) (Sl.c x)]) V fun (r : Value) (V : View) => ∃ (x : Sl), r = Value.slice (Sl.a x) (Sl.n x) (Sl.c x) ∧ View.Le S V ∧ (0 : Int) ≤ x_5 ∧ x_5 < (↑(Sl.n x_4) : Int) ∧ ∃ (ad : Addr), Sl.a x_4 = some ad ∧ canSet V (Addr.add ad (Int.toNat x_5 * (1 : Nat))) (nat_lit 1) ∧ inI IntKind.i64 (x_5 + (1 : Int)) ∧ J (x_5 + (1 : Int)) (View.sets V (Addr.add ad (Int.toNat x_5 * (1 : Nat))) [Value.slice (Sl.a x) (Sl.n x) (Sl.c x)])) (Q (Value.agg (Array.mk [Value.bool x, Value.int IntKind.i64 x_1, Value.int IntKind.i64 x_2, Value.slice (Sl.a x_4) (Sl.n x_4) (Sl.c x_4)])) V)) ((0 : Int), ()) V)
def f69_ac : AC := (.seq (.reg ⟨.done, false, [], [], none⟩) (.seq (.seq (.reg ⟨.done, false, [], [], none⟩) (.cond none (.seq (.reg ⟨.done, false, [], [], none⟩) .leaf) .leaf)) (.seq (.reg ⟨.done, false, [], [], none⟩) (.seq (.reg ⟨.done, false, [], [], none⟩) (.seq (.seq (.reg ⟨.done, false, [], [], none⟩) (.block none (.loop ⟨[6, 7, 28, 29, 30, 31, 32, 33, 34, 35, 36, 37, 38], [(27, .int .i64)], []⟩ (.seq (.reg ⟨.done, false, [], [], none⟩) (.seq (.cond none .leaf .leaf) (.seq (.block none (.seq (.reg ⟨.done, false, [], [], none⟩) (.reg ⟨(.fl 0 (.fl 1 (.fl 2 (.fl 3 (.alt 4 true false (.fl 5 (.alt 6 false false .done .no)) .no))))), true, [], [], none⟩))) (.reg ⟨.done, false, [], [], none⟩))))))) (.seq (.reg ⟨.done, false, [], [], none⟩) .leaf))))))
theorem f69_x {a0 : Option Addr} {a1 : Int} {V : View} {Q : Value → View → Prop} (h : f69_n a0 a1 V Q) : CallV Tryz.prog 69 ⟨[(.pointer a0), (.int .i64 a1)]⟩ V Q :=
  XF_sound (wr := false) Tryz.checked.mixed (enters_of (fn := Tryz.f69) (by kernel_rfl) (by kernel_rfl) (by kernel_rfl)) (fn := Tryz.f69) (by kernel_rfl) (ac := f69_ac)
    (Eq.mp (show f69_n a0 a1 V Q = XF Tryz.prog false Tryz.f69 (f69_ac) [(.pointer a0), (.int .i64 a1)] V Q from by kernel_rfl) h)
/-- potsherd/sheet.May -/
def f74_n (a0_0 : Int) (a0_1 : Int) (a0_2 : Sl) (V : View) (Q : Value → View → Prop) : Prop :=
    ∀ (b : Nat), joinP [K.bool] (fun (J : CurP [K.bool]) => br (bif bif bif bif decide ((0 : Int) ≤ a0_0) then decide (a0_0 ≤ (60 : Int)) else false then decide ((1 : Int) ≤ a0_1) else false then decide (a0_1 ≤ (1099511627776 : Int)) else false then decide ((↑(Sl.n a0_2) : Int) ≤ (2000 : Int)) else false) (CallV Tryz.prog (116 : Nat) (Array.mk [Value.agg (Array.mk [Value.int IntKind.i64 a0_0, Value.int IntKind.i64 a0_1, Value.slice (Sl.a a0_2) (Sl.n a0_2) (Sl.c a0_2)])]) V fun (r : Value) (V : View) => ∃ (x : Sl), r = Value.slice (Sl.a x) (Sl.n x) (Sl.c x) ∧ J (decide ((↑(Sl.n x) : Int) ≤ (2000 : Int))) V) (J false V)) fun (x : Bool) (V : View) => Q (Value.bool x) V
def f74_ac : AC := (.seq (.reg ⟨.done, false, [], [], none⟩) (.seq (.reg ⟨.done, false, [], [], (some ⟨[3, 4, 5, 6, 7, 8, 9, 10, 11, 12, 13, 14, 15, 16, 17, 18, 19, 20, 21, 22, 23, 24, 25, 26, 27, 28, 29, 30, 31, 32], [(2, .bool)], []⟩)⟩) .leaf))
theorem f74_x {a0_0 : Int} {a0_1 : Int} {a0_2 : Sl} {V : View} {Q : Value → View → Prop} (h : f74_n a0_0 a0_1 a0_2 V Q) : CallV Tryz.prog 74 ⟨[(.agg ⟨[(.int .i64 a0_0), (.int .i64 a0_1), (.slice a0_2.a a0_2.n a0_2.c)]⟩)]⟩ V Q :=
  XF_sound (wr := false) Tryz.checked.mixed (enters_of (fn := Tryz.f74) (by kernel_rfl) (by kernel_rfl) (by kernel_rfl)) (fn := Tryz.f74) (by kernel_rfl) (ac := f74_ac)
    (Eq.mp (show f74_n a0_0 a0_1 a0_2 V Q = XF Tryz.prog false Tryz.f74 (f74_ac) [(.agg ⟨[(.int .i64 a0_0), (.int .i64 a0_1), (.slice a0_2.a a0_2.n a0_2.c)]⟩)] V Q from by kernel_rfl) h)
/-- potsherd/sheet.Bytes -/
def f75_n (a0_0 : Int) (a0_1 : Int) (a0_2 : Sl) (V : View) (Q : Value → View → Prop) : Prop :=
    ∀ (b : Nat), CallV Tryz.prog (74 : Nat) (Array.mk [Value.agg (Array.mk [Value.int IntKind.i64 a0_0, Value.int IntKind.i64 a0_1, Value.slice (Sl.a a0_2) (Sl.n a0_2) (Sl.c a0_2)])]) V fun (r : Value) (V : View) => ∃ (x : Bool), r = Value.bool x ∧ br (!x) (Q (Value.tuple (Array.mk [Value.slice none (0 : Nat) (0 : Nat), Value.int IntKind.i64 (1 : Int)])) V) (CallV Tryz.prog (116 : Nat) (Array.mk [Value.agg (Array.mk [Value.int IntKind.i64 a0_0, Value.int IntKind.i64 a0_1, Value.slice (Sl.a a0_2) (Sl.n a0_2) (Sl.c a0_2)])]) V fun (r : Value) (V : View) => ∃ (x : Sl), r = Value.slice (Sl.a x) (Sl.n x) (Sl.c x) ∧ Q (Value.tuple (Array.mk [Value.slice (Sl.a x) (Sl.n x) (Sl.c x), Value.int IntKind.i64 (0 : Int)])) V)
def f75_ac : AC := (.seq (.reg ⟨.done, false, [], [], none⟩) (.seq (.seq (.reg ⟨.done, false, [], [], none⟩) (.cond none (.seq (.reg ⟨.done, false, [], [], none⟩) .leaf) .leaf)) (.seq (.reg ⟨.done, false, [], [], none⟩) .leaf)))
theorem f75_x {a0_0 : Int} {a0_1 : Int} {a0_2 : Sl} {V : View} {Q : Value → View → Prop} (h : f75_n a0_0 a0_1 a0_2 V Q) : CallV Tryz.prog 75 ⟨[(.agg ⟨[(.int .i64 a0_0), (.int .i64 a0_1), (.slice a0_2.a a0_2.n a0_2.c)]⟩)]⟩ V Q :=
  XF_sound (wr := false) Tryz.checked.mixed (enters_of (fn := Tryz.f75) (by kernel_rfl) (by kernel_rfl) (by kernel_rfl)) (fn := Tryz.f75) (by kernel_rfl) (ac := f75_ac)
    (Eq.mp (show f75_n a0_0 a0_1 a0_2 V Q = XF Tryz.prog false Tryz.f75 (f75_ac) [(.agg ⟨[(.int .i64 a0_0), (.int .i64 a0_1), (.slice a0_2.a a0_2.n a0_2.c)]⟩)] V Q from by kernel_rfl) h)
/-- (*potsherd/pool.Pool).write -/
def f76_n (a0 : Option Addr) (a1_0 : Int) (a1_1 : Int) (a2 : Sl) (V : View) (Q : Value → View → Prop) : Prop :=
    ∀ (b : Nat), loopP [] (fun (V : View) (J : CurP []) => joinP [] (fun (J : CurP []) => CallV Tryz.prog (41 : Nat) (Array.mk [Value.pointer a0]) V fun (r : Value) (V : View) => ∃ (x : Int), r = Value.int IntKind.i64 x ∧ br (!decide (x = (0 : Int))) (Q (Value.int IntKind.i64 x) V) (joinP [K.bool] (fun (J : CurP [K.bool]) => True ∧ ∃ (S : View), View.Le S V ∧ ∃ (a : Addr), a0 = some a ∧ ∃ (x : Int), View.cell? S (Addr.add a (10 : Nat)) = some (Value.int IntKind.i64 x) ∧ br (!decide (x = (-1 : Int))) (∃ (a : Addr), a0 = some a ∧ ∃ (x : Option Addr), View.cell? S (Addr.add a (0 : Nat)) = some (Value.pointer x) ∧ ∃ (a : Addr), a0 = some a ∧ ∃ (x_1 : Int), View.cell? S (Addr.add a (10 : Nat)) = some (Value.int IntKind.i64 x_1) ∧ ∃ (a : Addr), a0 = some a ∧ ∃ (x_2 : Int), View.cell? S (Addr.add (Addr.add a (1 : Nat)) (1 : Nat)) = some (Value.int IntKind.i64 x_2) ∧ CallV Tryz.prog (69 : Nat) (Array.mk [Value.pointer x, Value.int IntKind.i64 x_1]) V fun (r : Value) (V : View) => ∃ (x : Bool), ∃ (x_3 : Int), ∃ (x_4 : Int), ∃ (x_5 : Sl), r = Value.agg (Array.mk [Value.bool x, Value.int IntKind.i64 x_3, Value.int IntKind.i64 x_4, Value.slice (Sl.a x_5) (Sl.n x_5) (Sl.c x_5)]) ∧ View.Le S V ∧ CallV Tryz.prog (117 : Nat) (Array.mk [Value.agg (Array.mk [Value.bool x, Value.int IntKind.i64 x_3, Value.int IntKind.i64 x_4, Value.slice (Sl.a x_5) (Sl.n x_5) (Sl.c x_5)]), Value.int IntKind.i64 x_2]) V fun (r : Value) (V : View) => ∃ (x : Int), r = Value.int IntKind.i64 x ∧ J (decide (x = (0 : Int))) V) (J false V)) fun (x : Bool) (V : View) => joinP [] (fun (J : CurP []) => br x (∃ (a : Addr), a0 = some a ∧ canSet V (Addr.add a (10 : Nat)) (1 : Nat) ∧ J (View.sets V (Addr.add a (10 : Nat)) [Value.int IntKind.i64 (-1 : Int)])) (J V)) fun (V : View) => ∃ (a : Addr), a0 = some a ∧ ∃ (x : Int), View.cell? V (Addr.add a (10 : Nat)) = some (Value.int IntKind.i64 x) ∧ br (decide (x = (-1 : Int))) (CallV Tryz.prog (118 : Nat) (Array.mk [Value.pointer a0]) V fun (r : Value) (V : View) => ∃ (x : Int), r = Value.int IntKind.i64 x ∧ br (!decide (x = (0 : Int))) (Q (Value.int IntKind.i64 x) V) (J V)) (joinP [K.int IntKind.i64, K.int IntKind.i64] (fun (J : CurP [K.int IntKind.i64, K.int IntKind.i64]) => True ∧ ∃ (S : View), View.Le S V ∧ ∃ (a : Addr), a0 = some a ∧ ∃ (x : Int), View.cell? S (Addr.add a (10 : Nat)) = some (Value.int IntKind.i64 x) ∧ ∃ (a : Addr), a0 = some a ∧ ∃ (x_1 : Option Addr), View.cell? S (Addr.add a (0 : Nat)) = some (Value.pointer x_1) ∧ ∃ (a : Addr), a0 = some a ∧ ∃ (x_2 : Int), View.cell? S (Addr.add a (10 : Nat)) = some (Value.int IntKind.i64 x_2) ∧ (CallV Tryz.prog (69 : Nat) (Array.mk [Value.pointer x_1, Value.int IntKind.i64 x_2]) V fun (r : Value) (V : View) => ∃ (x_3 : Bool), ∃ (x_4 : Int), ∃ (x_5 : Int), ∃ (x_6 : Sl), r = Value.agg (Array.mk [Value.bool x_3, Value.int IntKind.i64 x_4, Value.int IntKind.i64 x_5, Value.slice (Sl.a x_6) (Sl.n x_6) (Sl.c x_6)]) ∧ View.Le S V ∧ ∀ (b : Nat), View.Le S V ∧ J x x_4 V) ∧ ∀ (b : Nat), View.Le S V ∧ CallV Tryz.prog (69 : Nat) (Array.mk [Value.pointer x_1, Value.int IntKind.i64 x_2]) V fun (r : Value) (V : View) => ∃ (x_3 : Bool), ∃ (x_4 : Int), ∃ (x_5 : Int), ∃ (x_6 : Sl), r = Value.agg (Array.mk [Value.bool x_3, Value.int IntKind.i64 x_4, Value.int IntKind.i64 x_5, Value.slice (Sl.a x_6) (Sl.n x_6) (Sl.c x_6)]) ∧ View.Le S V ∧ J x x_4 V) fun (x x_1 : Int) (V : View) => ∀ (b : Nat), True ∧ ∃ (S : View), View.Le S V ∧ ∃ (a : Addr), a0 = some a ∧ ∃ (x_2 : Option Addr), View.cell? S (Addr.add a (0 : Nat)) = some (Value.pointer x_2) ∧ CallV Tryz.prog (119 : Nat) (Array.mk [Value.pointer x_2, Value.agg (Array.mk [Value.int IntKind.i64 x, Value.int IntKind.i64 x_1]), Value.slice (Sl.a a2) (Sl.n a2) (Sl.c a2)]) V fun (r : Value) (V : View) => ∃ (x_3 : Int), r = Value.int IntKind.i64 x_3 ∧ br (decide (x_3 = (0 : Int))) (True ∧ ∃ (S : View), View.Le S V ∧ ∃ (a : Addr), a0 = some a ∧ ∃ (x_4 : Option Addr), View.cell? S (Addr.add a (7 : Nat)) = some (Value.pointer x_4) ∧ CallV Tryz.prog (50 : Nat) (Array.mk [Value.pointer x_4, Value.agg (Array.mk [Value.int IntKind.i64 a1_0, Value.int IntKind.i64 a1_1]), Value.agg (Array.mk [Value.int IntKind.i64 x, Value.int IntKind.i64 x_1])]) V fun (r : Value) (V : View) => ∃ (x : Bool), r = Value.bool x ∧ Q (Value.int IntKind.i64 (0 : Int)) V) (br (decide (x_3 = (3 : Int))) (∃ (a : Addr), a0 = some a ∧ canSet V (Addr.add a (10 : Nat)) (1 : Nat) ∧ J (View.sets V (Addr.add a (10 : Nat)) [Value.int IntKind.i64 (-1 : Int)])) (Q (Value.int IntKind.i64 x_3) V))))) fun (V : View) => J V) () V
def f76_ac : AC := (.seq (.reg ⟨.done, false, [], [], none⟩) (.block none (.loop ⟨[7, 8, 9, 10, 11, 12, 13, 14, 16, 17, 18, 19, 20, 21, 22, 23, 24, 25, 26, 27, 28, 29, 30, 31, 32, 33, 34, 35, 36, 37, 38, 39, 40, 41, 42, 43, 44, 45, 46, 47, 48, 49, 50, 52, 53, 54, 55, 56, 57, 58, 59, 60, 61, 62, 63, 64, 65, 66, 67, 68, 69, 70, 71, 72, 73, 74, 76, 77, 85, 86, 87, 88, 89], [], []⟩ (.block (some ⟨[7, 8, 9, 10, 11, 12, 13, 14, 16, 17, 18, 19, 20, 21, 22, 23, 24, 25, 26, 27, 28, 29, 30, 31, 32, 33, 34, 35, 36, 37, 38, 39, 40, 41, 42, 43, 44, 45, 46, 47, 48, 49, 50, 52, 53, 54, 55, 56, 57, 58, 59, 60, 61, 62, 63, 64, 65, 66, 67, 68, 69, 70, 71, 72, 73, 74, 76, 77, 85, 86, 87, 88, 89], [], []⟩) (.seq (.seq (.reg ⟨.done, false, [], [], none⟩) (.seq (.reg ⟨.done, false, [], [], none⟩) (.cond none (.seq (.reg ⟨.done, false, [], [], none⟩) .leaf) .leaf))) (.seq (.seq (.reg ⟨(.fl 0 (.fl 1 (.fl 2 (.fl 3 (.fl 4 (.fl 5 (.fl 6 (.fl 7 (.fl 8 (.fl 9 (.fl 10 (.fl 11 (.fl 12 (.fl 13 (.fl 15 (.fl 16 (.fl 17 (.fl 18 (.fl 19 (.alt 14 true false (.alt 20 false false (.fl 21 (.fl 22 .done)) .no) .no)))))))))))))))))))), true, [], [], (some ⟨[16, 17, 18, 19, 20, 21, 22, 23, 24, 25, 26, 27, 28, 29, 30, 31, 32, 33, 34, 35, 36, 37], [(38, .bool)], []⟩)⟩) (.cond (some ⟨[39, 40, 41], [], []⟩) (.reg ⟨.done, false, [], [], none⟩) .leaf)) (.seq (.seq (.reg ⟨.done, false, [], [], none⟩) (.cond none (.seq (.seq (.reg ⟨.done, false, [], [], none⟩) (.seq (.reg ⟨.done, false, [], [], none⟩) (.cond none (.seq (.reg ⟨.done, false, [], [], none⟩) .leaf) .leaf))) .leaf) .leaf)) (.seq (.regn ⟨(.fl 0 (.fl 1 (.fl 2 (.fl 3 (.fl 4 (.fl 5 (.fl 6 (.fl 7 (.fl 8 (.fl 9 (.fl 10 (.fl 11 (.alt 12 true false (.fl 13 (.fl 14 (.alt 15 true false (.alt 16 false false .done .no) .no))) (.alt 15 true false (.alt 12 true false (.fl 13 (.fl 14 (.alt 16 false false .done .no))) .no) .no)))))))))))))), true, [], [], (some ⟨[9, 52, 53, 54, 55, 56, 57, 58, 59, 60, 61, 62, 63, 64, 65, 66], [], []⟩)⟩ [⟨9, 50, [.int .i64, .int .i64]⟩]) (.seq (.reg ⟨(.fl 0 (.fl 1 (.fl 2 (.fl 3 (.fl 4 (.fl 5 (.alt 6 false false (.fl 7 .done) .no))))))), true, [], [], none⟩) (.seq (.reg ⟨.done, false, [], [], none⟩) (.block none (.seq (.reg ⟨.done, false, [], [], none⟩) (.cond none (.seq (.reg ⟨(.fl 0 (.fl 1 (.fl 2 (.fl 3 (.fl 4 (.fl 5 (.alt 6 false false .done .no))))))), true, [], [], none⟩) (.seq (.reg ⟨.done, false, [], [], none⟩) .leaf)) (.seq (.reg ⟨.done, false, [], [], none⟩) (.cond none (.reg ⟨.done, false, [], [], none⟩) (.seq (.reg ⟨.done, false, [], [], none⟩) .leaf))))))))))))))))
theorem f76_x {a0 : Option Addr} {a1_0 : Int} {a1_1 : Int} {a2 : Sl} {V : View} {Q : Value → View → Prop} (h : f76_n a0 a1_0 a1_1 a2 V Q) : CallV Tryz.prog 76 ⟨[(.pointer a0), (.agg ⟨[(.int .i64 a1_0), (.int .i64 a1_1)]⟩), (.slice a2.a a2.n a2.c)]⟩ V Q :=
  XF_sound (wr := false) Tryz.checked.mixed (enters_of (fn := Tryz.f76) (by kernel_rfl) (by kernel_rfl) (by kernel_rfl)) (fn := Tryz.f76) (by kernel_rfl) (ac := f76_ac)
    (Eq.mp (show f76_n a0 a1_0 a1_1 a2 V Q = XF Tryz.prog false Tryz.f76 (f76_ac) [(.pointer a0), (.agg ⟨[(.int .i64 a1_0), (.int .i64 a1_1)]⟩), (.slice a2.a a2.n a2.c)] V Q from by kernel_rfl) h)
/-- (*potsherd/chip.Chip).spot -/
def f77_n (a0 : Option Addr) (a1_0 : Int) (a1_1 : Int) (V : View) (Q : Value → View → Prop) : Prop :=
    ∀ (b : Nat), joinP [K.bool] (fun (J : CurP [K.bool]) => True ∧ ∃ (S : View), View.Le S V ∧ CallV Tryz.prog (112 : Nat) (Array.mk [Value.pointer a0, Value.int IntKind.i64 a1_0]) V fun (r : Value) (V : View) => ∃ (x : Bool), r = Value.bool x ∧ View.Le S V ∧ ∃ (S' : View), View.Le S S' ∧ View.Le S' V ∧ br (bif x then decide ((0 : Int) ≤ a1_1) else false) (∃ (a : Addr), a0 = some a ∧ ∃ (x : Int), View.cell? S' (Addr.add a (1 : Nat)) = some (Value.int IntKind.i64 x) ∧ J (decide (a1_1 < x)) V) (J false V)) fun (x : Bool) (V : View) => Q (Value.bool x) V
def f77_ac : AC := (.seq (.reg ⟨.done, false, [], [], none⟩) (.seq (.reg ⟨(.fl 0 (.fl 1 (.fl 2 (.alt 3 true true (.fl 4 (.fl 5 (.fl 6 (.fl 7 (.fl 8 (.fl 9 (.fl 10 (.fl 11 (.fl 12 (.fl 13 (.fl 14 (.fl 15 (.fl 16 (.fl 17 (.fl 18 .done))))))))))))))) .no)))), true, [], [], (some ⟨[5, 6, 7, 8, 9, 10, 11, 12, 13, 14, 15, 16, 17, 18, 19, 20, 21, 22], [(4, .bool)], []⟩)⟩) .leaf))
theorem f77_x {a0 : Option Addr} {a1_0 : Int} {a1_1 : Int} {V : View} {Q : Value → View → Prop} (h : f77_n a0 a1_0 a1_1 V Q) : CallV Tryz.prog 77 ⟨[(.pointer a0), (.agg ⟨[(.int .i64 a1_0), (.int .i64 a1_1)]⟩)]⟩ V Q :=
  XF_sound (wr := false) Tryz.checked.mixed (enters_of (fn := Tryz.f77) (by kernel_rfl) (by kernel_rfl) (by kernel_rfl)) (fn := Tryz.f77) (by kernel_rfl) (ac := f77_ac)
    (Eq.mp (show f77_n a0 a1_0 a1_1 V Q = XF Tryz.prog false Tryz.f77 (f77_ac) [(.pointer a0), (.agg ⟨[(.int .i64 a1_0), (.int .i64 a1_1)]⟩)] V Q from by kernel_rfl) h)
/-- slices.Clone[[]byte,byte] -/
def f78_n (a0 : Sl) (V : View) (Q : Value → View → Prop) : Prop :=
    br (Option.isNone (Sl.a a0)) (Q (Value.slice none (0 : Nat) (0 : Nat)) V) (newB V (Obj.cells (Array.mk []) (5 : Nat)) fun (r : Nat) (V : View) => apV V (5 : Nat) (1 : Nat) (1 : Nat) [Value.int IntKind.u8 (0 : Int)] (Sl.mk (some (Addr.mk r (0 : Nat) none)) (0 : Nat) (0 : Nat)) (Value.slice (Sl.a a0) (Sl.n a0) (Sl.c a0)) fun (s : Sl) (V : View) => Q (Value.slice (Sl.a s) (Sl.n s) (Sl.c s)) V)
def f78_ac : AC := (.seq (.reg ⟨.done, false, [], [], none⟩) (.seq (.seq (.reg ⟨.done, false, [], [], none⟩) (.cond none (.seq (.reg ⟨.done, false, [], [], none⟩) .leaf) .leaf)) (.seq (.reg ⟨.done, false, [], [], none⟩) .leaf)))
theorem f78_x {a0 : Sl} {V : View} {Q : Value → View → Prop} (h : f78_n a0 V Q) : CallV Tryz.prog 78 ⟨[(.slice a0.a a0.n a0.c)]⟩ V Q :=
  XF_sound (wr := false) Tryz.checked.mixed (enters_of (fn := Tryz.f78) (by kernel_rfl) (by kernel_rfl) (by kernel_rfl)) (fn := Tryz.f78) (by kernel_rfl) (ac := f78_ac)
    (Eq.mp (show f78_n a0 V Q = XF Tryz.prog false Tryz.f78 (f78_ac) [(.slice a0.a a0.n a0.c)] V Q from by kernel_rfl) h)
/-- potsherd/bytes.NewReader -/
def f79_n (a0 : Sl) (V : View) (Q : Value → View → Prop) : Prop :=
    CallV Tryz.prog (78 : Nat) (Array.mk [Value.slice (Sl.a a0) (Sl.n a0) (Sl.c a0)]) V fun (r : Value) (V : View) => ∃ (x : Sl), r = Value.slice (Sl.a x) (Sl.n x) (Sl.c x) ∧ ∀ (b : Nat), View.see V b = none → Q (Value.pointer (some (Addr.mk b (0 : Nat) none))) (View.put V b (Obj.cells (Array.mk [Value.slice (Sl.a x) (Sl.n x) (Sl.c x), Value.int IntKind.i64 (0 : Int)]) (171 : Nat)))
def f79_ac : AC := (.seq (.reg ⟨.done, false, [], [], none⟩) (.seq (.reg ⟨.done, false, [(4, 0)], [], none⟩) .leaf))
theorem f79_x {a0 : Sl} {V : View} {Q : Value → View → Prop} (h : f79_n a0 V Q) : CallV Tryz.prog 79 ⟨[(.slice a0.a a0.n a0.c)]⟩ V Q :=
  XF_sound (wr := false) Tryz.checked.mixed (enters_of (fn := Tryz.f79) (by kernel_rfl) (by kernel_rfl) (by kernel_rfl)) (fn := Tryz.f79) (by kernel_rfl) (ac := f79_ac)
    (Eq.mp (show f79_n a0 V Q = XF Tryz.prog false Tryz.f79 (f79_ac) [(.slice a0.a a0.n a0.c)] V Q from by kernel_rfl) h)
/-- (*potsherd/bytes.Reader).Number -/
def f80_n (a0 : Option Addr) (a1 : Int) (V : View) (Q : Value → View → Prop) : Prop :=
    CallV Tryz.prog (120 : Nat) (Array.mk [Value.pointer a0]) V fun (r : Value) (V : View) => ∃ (x : Bool), r = Value.bool x ∧ br x (Q (Value.int IntKind.i64 (0 : Int)) V) (∃ (a : Addr), a0 = some a ∧ ∃ (x : Sl), View.cell? V (Addr.add a (0 : Nat)) = some (Value.slice (Sl.a x) (Sl.n x) (Sl.c x)) ∧ CallV Tryz.prog (121 : Nat) (Array.mk [Value.slice (Sl.a x) (Sl.n x) (Sl.c x), Value.int IntKind.i64 a1]) V fun (r : Value) (V : View) => ∃ (x : Int), ∃ (x_1 : Int), r = Value.tuple (Array.mk [Value.int IntKind.i64 x, Value.int IntKind.i64 x_1]) ∧ joinP [] (fun (J : CurP []) => br (decide (x_1 = (0 : Int))) (∃ (a : Addr), a0 = some a ∧ canSet V (Addr.add a (1 : Nat)) (1 : Nat) ∧ J (View.sets V (Addr.add a (1 : Nat)) [Value.int IntKind.i64 (5 : Int)])) (J V)) fun (V : View) => ∃ (a : Addr), a0 = some a ∧ ∃ (x_2 : Sl), View.cell? V (Addr.add a (0 : Nat)) = some (Value.slice (Sl.a x_2) (Sl.n x_2) (Sl.c x_2)) ∧ (0 : Int) ≤ x_1 ∧ x_1 ≤ (↑(Sl.n x_2) : Int) ∧ (↑(Sl.n x_2) : Int) ≤ (↑(Sl.c x_2) : Int) ∧ ∃ (a : Addr), a0 = some a ∧ canSet V (Addr.add a (0 : Nat)) (nat_lit 1) ∧ Q (Value.int IntKind.i64 x) (View.sets V (Addr.add a (0 : Nat)) [Value.slice (if Sl.c x_2 = Int.toNat x_1 then Sl.a x_2 else Option.map (fun (x : Addr) => Addr.add x (Int.toNat x_1 * (1 : Nat))) (Sl.a x_2)) (Int.toNat (↑(Sl.n x_2) : Int) - Int.toNat x_1) (Sl.c x_2 - Int.toNat x_1)]))
def f80_ac : AC := (.seq (.reg ⟨.done, false, [], [], none⟩) (.seq (.seq (.reg ⟨.done, false, [], [], none⟩) (.cond none (.seq (.reg ⟨.done, false, [], [], none⟩) .leaf) .leaf)) (.seq (.reg ⟨.done, false, [], [], none⟩) (.seq (.seq (.reg ⟨.done, false, [], [], none⟩) (.cond (some ⟨[20, 21, 22], [], []⟩) (.reg ⟨.done, false, [], [], none⟩) .leaf)) (.seq (.reg ⟨.done, false, [], [], none⟩) (.seq (.reg ⟨.done, false, [], [], none⟩) .leaf))))))
theorem f80_x {a0 : Option Addr} {a1 : Int} {V : View} {Q : Value → View → Prop} (h : f80_n a0 a1 V Q) : CallV Tryz.prog 80 ⟨[(.pointer a0), (.int .i64 a1)]⟩ V Q :=
  XF_sound (wr := false) Tryz.checked.mixed (enters_of (fn := Tryz.f80) (by kernel_rfl) (by kernel_rfl) (by kernel_rfl)) (fn := Tryz.f80) (by kernel_rfl) (ac := f80_ac)
    (Eq.mp (show f80_n a0 a1 V Q = XF Tryz.prog false Tryz.f80 (f80_ac) [(.pointer a0), (.int .i64 a1)] V Q from by kernel_rfl) h)
/-- (*potsherd/bytes.Reader).Text -/
def f81_n (a0 : Option Addr) (a1 : Int) (V : View) (Q : Value → View → Prop) : Prop :=
    CallV Tryz.prog (120 : Nat) (Array.mk [Value.pointer a0]) V fun (r : Value) (V : View) => ∃ (x : Bool), r = Value.bool x ∧ br x (Q (Value.slice none (0 : Nat) (0 : Nat)) V) (∃ (a : Addr), a0 = some a ∧ ∃ (x : Sl), View.cell? V (Addr.add a (0 : Nat)) = some (Value.slice (Sl.a x) (Sl.n x) (Sl.c x)) ∧ CallV Tryz.prog (121 : Nat) (Array.mk [Value.slice (Sl.a x) (Sl.n x) (Sl.c x), Value.int IntKind.i64 a1]) V fun (r : Value) (V : View) => ∃ (x : Int), ∃ (x_1 : Int), r = Value.tuple (Array.mk [Value.int IntKind.i64 x, Value.int IntKind.i64 x_1]) ∧ joinP [K.bool] (fun (J : CurP [K.bool]) => br (decide (x_1 = (0 : Int))) (J true V) (∃ (a : Addr), a0 = some a ∧ ∃ (x_2 : Sl), View.cell? V (Addr.add a (0 : Nat)) = some (Value.slice (Sl.a x_2) (Sl.n x_2) (Sl.c x_2)) ∧ inI IntKind.i64 ((↑(Sl.n x_2) : Int) - x_1) ∧ J (decide ((↑(Sl.n x_2) : Int) - x_1 < x)) V)) fun (x_2 : Bool) (V : View) => br x_2 (∃ (a : Addr), a0 = some a ∧ canSet V (Addr.add a (1 : Nat)) (1 : Nat) ∧ Q (Value.slice none (0 : Nat) (0 : Nat)) (View.sets V (Addr.add a (1 : Nat)) [Value.int IntKind.i64 (5 : Int)])) (∃ (a : Addr), a0 = some a ∧ ∃ (x_3 : Sl), View.cell? V (Addr.add a (0 : Nat)) = some (Value.slice (Sl.a x_3) (Sl.n x_3) (Sl.c x_3)) ∧ inI IntKind.i64 (x_1 + x) ∧ (0 : Int) ≤ x_1 ∧ x_1 ≤ x_1 + x ∧ x_1 + x ≤ (↑(Sl.c x_3) : Int) ∧ CallV Tryz.prog (78 : Nat) (Array.mk [Value.slice (if Sl.c x_3 = Int.toNat x_1 then Sl.a x_3 else Option.map (fun (x : Addr) => Addr.add x (Int.toNat x_1 * (1 : Nat))) (Sl.a x_3)) (Int.toNat (x_1 + x) - Int.toNat x_1) (Sl.c x_3 - Int.toNat x_1)]) V fun (r : Value) (V : View) => ∃ (x_4 : Sl), r = Value.slice (Sl.a x_4) (Sl.n x_4) (Sl.c x_4) ∧ ∃ (a : Addr), a0 = some a ∧ ∃ (x_5 : Sl), View.cell? V (Addr.add a (0 : Nat)) = some (Value.slice (Sl.a x_5) (Sl.n x_5) (Sl.c x_5)) ∧ inI IntKind.i64 (x_1 + x) ∧ (0 : Int) ≤ x_1 + x ∧ x_1 + x ≤ (↑(Sl.n x_5) : Int) ∧ (↑(Sl.n x_5) : Int) ≤ (↑(Sl.c x_5) : Int) ∧ ∃ (a : Addr), a0 = some a ∧ canSet V (Addr.add a (0 : Nat)) (nat_lit 1) ∧ Q (Value.slice (Sl.a x_4) (Sl.n x_4) (Sl.c x_4)) (View.sets V (Addr.add a (0 : Nat)) [Value.slice (if Sl.c x_5 = Int.toNat (x_1 + x) then Sl.a x_5 else Option.map (fun (x_6 : Addr) => Addr.add x_6 (Int.toNat (x_1 + x) * (1 : Nat))) (Sl.a x_5)) (Int.toNat (↑(Sl.n x_5) : Int) - Int.toNat (x_1 + x)) (Sl.c x_5 - Int.toNat (x_1 + x))])))
def f81_ac : AC := (.seq (.reg ⟨.done, false, [], [], none⟩) (.seq (.seq (.reg ⟨.done, false, [], [], none⟩) (.cond none (.seq (.reg ⟨.done, false, [], [], none⟩) .leaf) .leaf)) (.seq (.reg ⟨.done, false, [], [], none⟩) (.seq (.seq (.reg ⟨.done, false, [], [], (some ⟨[19, 20, 21, 22, 23, 24, 25, 26, 27, 28, 29, 30], [(31, .bool)], []⟩)⟩) (.cond none (.seq (.reg ⟨.done, false, [], [], none⟩) (.seq (.reg ⟨.done, false, [], [], none⟩) .leaf)) .leaf)) (.seq (.reg ⟨.done, false, [], [], none⟩) (.seq (.reg ⟨.done, false, [], [], none⟩) (.seq (.reg ⟨.done, false, [], [], none⟩) .leaf)))))))
theorem f81_x {a0 : Option Addr} {a1 : Int} {V : View} {Q : Value → View → Prop} (h : f81_n a0 a1 V Q) : CallV Tryz.prog 81 ⟨[(.pointer a0), (.int .i64 a1)]⟩ V Q :=
  XF_sound (wr := false) Tryz.checked.mixed (enters_of (fn := Tryz.f81) (by kernel_rfl) (by kernel_rfl) (by kernel_rfl)) (fn := Tryz.f81) (by kernel_rfl) (ac := f81_ac)
    (Eq.mp (show f81_n a0 a1 V Q = XF Tryz.prog false Tryz.f81 (f81_ac) [(.pointer a0), (.int .i64 a1)] V Q from by kernel_rfl) h)
/-- (*potsherd/bytes.Reader).Err -/
def f82_n (a0 : Option Addr) (V : View) (Q : Value → View → Prop) : Prop :=
    br (Option.isNone a0) (Q (Value.int IntKind.i64 (1 : Int)) V) (∃ (a : Addr), a0 = some a ∧ ∃ (x : Int), View.cell? V (Addr.add a (1 : Nat)) = some (Value.int IntKind.i64 x) ∧ Q (Value.int IntKind.i64 x) V)
def f82_ac : AC := (.seq (.reg ⟨.done, false, [], [], none⟩) (.seq (.seq (.reg ⟨.done, false, [], [], none⟩) (.cond none (.seq (.reg ⟨.done, false, [], [], none⟩) .leaf) .leaf)) (.seq (.reg ⟨.done, false, [], [], none⟩) .leaf)))
theorem f82_x {a0 : Option Addr} {V : View} {Q : Value → View → Prop} (h : f82_n a0 V Q) : CallV Tryz.prog 82 ⟨[(.pointer a0)]⟩ V Q :=
  XF_sound (wr := false) Tryz.checked.mixed (enters_of (fn := Tryz.f82) (by kernel_rfl) (by kernel_rfl) (by kernel_rfl)) (fn := Tryz.f82) (by kernel_rfl) (ac := f82_ac)
    (Eq.mp (show f82_n a0 V Q = XF Tryz.prog false Tryz.f82 (f82_ac) [(.pointer a0)] V Q from by kernel_rfl) h)
/-- (*potsherd/bytes.Reader).Left -/
def f83_n (a0 : Option Addr) (V : View) (Q : Value → View → Prop) : Prop :=
    br (Option.isNone a0) (Q (Value.int IntKind.i64 (0 : Int)) V) (∃ (a : Addr), a0 = some a ∧ ∃ (x : Sl), View.cell? V (Addr.add a (0 : Nat)) = some (Value.slice (Sl.a x) (Sl.n x) (Sl.c x)) ∧ Q (Value.int IntKind.i64 (↑(Sl.n x) : Int)) V)
def f83_ac : AC := (.seq (.reg ⟨.done, false, [], [], none⟩) (.seq (.seq (.reg ⟨.done, false, [], [], none⟩) (.cond none (.seq (.reg ⟨.done, false, [], [], none⟩) .leaf) .leaf)) (.seq (.reg ⟨.done, false, [], [], none⟩) .leaf)))
theorem f83_x {a0 : Option Addr} {V : View} {Q : Value → View → Prop} (h : f83_n a0 V Q) : CallV Tryz.prog 83 ⟨[(.pointer a0)]⟩ V Q :=
  XF_sound (wr := false) Tryz.checked.mixed (enters_of (fn := Tryz.f83) (by kernel_rfl) (by kernel_rfl) (by kernel_rfl)) (fn := Tryz.f83) (by kernel_rfl) (ac := f83_ac)
    (Eq.mp (show f83_n a0 V Q = XF Tryz.prog false Tryz.f83 (f83_ac) [(.pointer a0)] V Q from by kernel_rfl) h)
/-- potsherd/plan.May -/
def f84_n (a0_0 : Int) (a0_1 : Int) (a0_2 : Int) (a0_3 : Int) (a0_4 : Int) (V : View) (Q : Value → View → Prop) : Prop :=
    ∀ (b : Nat), joinP [K.bool] (fun (J : CurP [K.bool]) => CallV Tryz.prog (85 : Nat) (Array.mk [Value.int IntKind.i64 a0_0, Value.int IntKind.i64 (3 : Int), Value.int IntKind.i64 (64 : Int)]) V fun (r : Value) (V : View) => ∃ (x : Bool), r = Value.bool x ∧ br x (CallV Tryz.prog (85 : Nat) (Array.mk [Value.int IntKind.i64 a0_1, Value.int IntKind.i64 (2 : Int), Value.int IntKind.i64 (32 : Int)]) V fun (r : Value) (V : View) => ∃ (x : Bool), r = Value.bool x ∧ br x (CallV Tryz.prog (85 : Nat) (Array.mk [Value.int IntKind.i64 a0_2, Value.int IntKind.i64 (0 : Int), Value.int IntKind.i64 (6 : Int)]) V fun (r : Value) (V : View) => ∃ (x : Bool), r = Value.bool x ∧ br x (CallV Tryz.prog (85 : Nat) (Array.mk [Value.int IntKind.i64 a0_3, Value.int IntKind.i64 (1 : Int), Value.int IntKind.i64 (60 : Int)]) V fun (r : Value) (V : View) => ∃ (x : Bool), r = Value.bool x ∧ br x (CallV Tryz.prog (85 : Nat) (Array.mk [Value.int IntKind.i64 a0_4, Value.int IntKind.i64 (2 : Int), Value.int IntKind.i64 (50 : Int)]) V fun (r : Value) (V : View) => ∃ (x : Bool), r = Value.bool x ∧ J x V) (J false V)) (J false V)) (J false V)) (J false V)) fun (x : Bool) (V : View) => Q (Value.bool x) V
def f84_ac : AC := (.seq (.reg ⟨.done, false, [], [], none⟩) (.seq (.reg ⟨.done, false, [], [], (some ⟨[3, 4, 5, 6, 7, 8, 9, 10, 11, 12, 13, 14, 15, 16, 17, 18, 19, 20, 21, 22, 23, 24, 25], [(2, .bool)], []⟩)⟩) .leaf))
theorem f84_x {a0_0 : Int} {a0_1 : Int} {a0_2 : Int} {a0_3 : Int} {a0_4 : Int} {V : View} {Q : Value → View → Prop} (h : f84_n a0_0 a0_1 a0_2 a0_3 a0_4 V Q) : CallV Tryz.prog 84 ⟨[(.agg ⟨[(.int .i64 a0_0), (.int .i64 a0_1), (.int .i64 a0_2), (.int .i64 a0_3), (.int .i64 a0_4)]⟩)]⟩ V Q :=
  XF_sound (wr := false) Tryz.checked.mixed (enters_of (fn := Tryz.f84) (by kernel_rfl) (by kernel_rfl) (by kernel_rfl)) (fn := Tryz.f84) (by kernel_rfl) (ac := f84_ac)
    (Eq.mp (show f84_n a0_0 a0_1 a0_2 a0_3 a0_4 V Q = XF Tryz.prog false Tryz.f84 (f84_ac) [(.agg ⟨[(.int .i64 a0_0), (.int .i64 a0_1), (.int .i64 a0_2), (.int .i64 a0_3), (.int .i64 a0_4)]⟩)] V Q from by kernel_rfl) h)
/-- potsherd/plan.within -/
def f85_n (a0 : Int) (a1 : Int) (a2 : Int) (V : View) (Q : Value → View → Prop) : Prop :=
    Q (Value.bool (bif decide (a1 ≤ a0) then decide (a0 ≤ a2) else false)) V
def f85_ac : AC := (.seq (.reg ⟨.done, false, [], [], none⟩) (.seq (.reg ⟨.done, false, [], [], none⟩) .leaf))
theorem f85_x {a0 : Int} {a1 : Int} {a2 : Int} {V : View} {Q : Value → View → Prop} (h : f85_n a0 a1 a2 V Q) : CallV Tryz.prog 85 ⟨[(.int .i64 a0), (.int .i64 a1), (.int .i64 a2)]⟩ V Q :=
  XF_sound (wr := false) Tryz.checked.mixed (enters_of (fn := Tryz.f85) (by kernel_rfl) (by kernel_rfl) (by kernel_rfl)) (fn := Tryz.f85) (by kernel_rfl) (ac := f85_ac)
    (Eq.mp (show f85_n a0 a1 a2 V Q = XF Tryz.prog false Tryz.f85 (f85_ac) [(.int .i64 a0), (.int .i64 a1), (.int .i64 a2)] V Q from by kernel_rfl) h)
/-- potsherd/plan.Room -/
def f86_n (a0_0 : Int) (a0_1 : Int) (a0_2 : Int) (a0_3 : Int) (a0_4 : Int) (a1 : Int) (V : View) (Q : Value → View → Prop) : Prop :=
    ∀ (b : Nat), joinP [K.bool] (fun (J : CurP [K.bool]) => CallV Tryz.prog (84 : Nat) (Array.mk [Value.agg (Array.mk [Value.int IntKind.i64 a0_0, Value.int IntKind.i64 a0_1, Value.int IntKind.i64 a0_2, Value.int IntKind.i64 a0_3, Value.int IntKind.i64 a0_4])]) V fun (r : Value) (V : View) => ∃ (x : Bool), r = Value.bool x ∧ br (!x) (J true V) (CallV Tryz.prog (85 : Nat) (Array.mk [Value.int IntKind.i64 a1, Value.int IntKind.i64 (0 : Int), Value.int IntKind.i64 a0_0]) V fun (r : Value) (V : View) => ∃ (x : Bool), r = Value.bool x ∧ J (!x) V)) fun (x : Bool) (V : View) => br x (Q (Value.int IntKind.i64 (0 : Int)) V) (inI IntKind.i64 (a0_0 - a1) ∧ inI IntKind.i64 (a0_0 - a1 - a0_2) ∧ inI IntKind.i64 (a0_0 - a1 - a0_2 - (1 : Int)) ∧ inI IntKind.i64 ((if (0 : Int) > a0_0 - a1 - a0_2 - (1 : Int) then (0 : Int) else a0_0 - a1 - a0_2 - (1 : Int)) * a0_1) ∧ Q (Value.int IntKind.i64 ((if (0 : Int) > a0_0 - a1 - a0_2 - (1 : Int) then (0 : Int) else a0_0 - a1 - a0_2 - (1 : Int)) * a0_1)) V)
def f86_ac : AC := (.seq (.reg ⟨.done, false, [], [], none⟩) (.seq (.seq (.reg ⟨.done, false, [], [], (some ⟨[5, 6, 7, 8, 9, 10, 11, 12, 13], [(14, .bool)], []⟩)⟩) (.cond none (.seq (.reg ⟨.done, false, [], [], none⟩) .leaf) .leaf)) (.seq (.reg ⟨.done, false, [], [], none⟩) .leaf)))
theorem f86_x {a0_0 : Int} {a0_1 : Int} {a0_2 : Int} {a0_3 : Int} {a0_4 : Int} {a1 : Int} {V : View} {Q : Value → View → Prop} (h : f86_n a0_0 a0_1 a0_2 a0_3 a0_4 a1 V Q) : CallV Tryz.prog 86 ⟨[(.agg ⟨[(.int .i64 a0_0), (.int .i64 a0_1), (.int .i64 a0_2), (.int .i64 a0_3), (.int .i64 a0_4)]⟩), (.int .i64 a1)]⟩ V Q :=
  XF_sound (wr := false) Tryz.checked.mixed (enters_of (fn := Tryz.f86) (by kernel_rfl) (by kernel_rfl) (by kernel_rfl)) (fn := Tryz.f86) (by kernel_rfl) (ac := f86_ac)
    (Eq.mp (show f86_n a0_0 a0_1 a0_2 a0_3 a0_4 a1 V Q = XF Tryz.prog false Tryz.f86 (f86_ac) [(.agg ⟨[(.int .i64 a0_0), (.int .i64 a0_1), (.int .i64 a0_2), (.int .i64 a0_3), (.int .i64 a0_4)]⟩), (.int .i64 a1)] V Q from by kernel_rfl) h)
/-- potsherd/plan.Need -/
def f87_n (a0_0 : Int) (a0_1 : Int) (a0_2 : Int) (a0_3 : Int) (a0_4 : Int) (V : View) (Q : Value → View → Prop) : Prop :=
    ∀ (b : Nat), CallV Tryz.prog (84 : Nat) (Array.mk [Value.agg (Array.mk [Value.int IntKind.i64 a0_0, Value.int IntKind.i64 a0_1, Value.int IntKind.i64 a0_2, Value.int IntKind.i64 a0_3, Value.int IntKind.i64 a0_4])]) V fun (r : Value) (V : View) => ∃ (x : Bool), r = Value.bool x ∧ br (!x) (Q (Value.int IntKind.i64 (0 : Int)) V) (inI IntKind.i64 (a0_3 + (1 : Int)) ∧ inI IntKind.i64 (a0_3 + (1 : Int) + (5 : Int)) ∧ inI IntKind.i64 (a0_3 + (1 : Int) + (5 : Int) + (1 : Int)) ∧ inI IntKind.i64 (a0_3 + (1 : Int) + (5 : Int) + (1 : Int) + (1 : Int)) ∧ Q (Value.int IntKind.i64 (a0_3 + (1 : Int) + (5 : Int) + (1 : Int) + (1 : Int))) V)
def f87_ac : AC := (.seq (.reg ⟨.done, false, [], [], none⟩) (.seq (.seq (.reg ⟨.done, false, [], [], none⟩) (.cond none (.seq (.reg ⟨.done, false, [], [], none⟩) .leaf) .leaf)) (.seq (.reg ⟨.done, false, [], [], none⟩) .leaf)))
theorem f87_x {a0_0 : Int} {a0_1 : Int} {a0_2 : Int} {a0_3 : Int} {a0_4 : Int} {V : View} {Q : Value → View → Prop} (h : f87_n a0_0 a0_1 a0_2 a0_3 a0_4 V Q) : CallV Tryz.prog 87 ⟨[(.agg ⟨[(.int .i64 a0_0), (.int .i64 a0_1), (.int .i64 a0_2), (.int .i64 a0_3), (.int .i64 a0_4)]⟩)]⟩ V Q :=
  XF_sound (wr := false) Tryz.checked.mixed (enters_of (fn := Tryz.f87) (by kernel_rfl) (by kernel_rfl) (by kernel_rfl)) (fn := Tryz.f87) (by kernel_rfl) (ac := f87_ac)
    (Eq.mp (show f87_n a0_0 a0_1 a0_2 a0_3 a0_4 V Q = XF Tryz.prog false Tryz.f87 (f87_ac) [(.agg ⟨[(.int .i64 a0_0), (.int .i64 a0_1), (.int .i64 a0_2), (.int .i64 a0_3), (.int .i64 a0_4)]⟩)] V Q from by kernel_rfl) h)
/-- (*potsherd/pool.Pool).wrongLive -/
def f91_n (a0 : Option Addr) (a1 : Sl) (V : View) (Q : Value → View → Prop) : Prop :=
    loopP [K.int IntKind.i64] (fun (x : Int) (V : View) (J : CurP [K.int IntKind.i64]) => br (decide (x < (↑(Sl.n a1) : Int))) ((0 : Int) ≤ x ∧ x < (↑(Sl.n a1) : Int) ∧ ∃ (ad : Addr), Sl.a a1 = some ad ∧ ∃ (x_1 : Int), ∃ (x_2 : Int), cellsAt V (Addr.add ad (Int.toNat x * (2 : Nat))) [Value.int IntKind.i64 x_1, Value.int IntKind.i64 x_2] ∧ ∀ (b : Nat), View.see V b = none → canSet (View.put V b (Obj.cells (Array.mk [Value.int IntKind.i64 (0 : Int), Value.int IntKind.i64 (0 : Int)]) (33 : Nat))) (Addr.mk b (0 : Nat) none) (Nat.succ (nat_lit 1)) ∧ joinP [K.bool] (fun (J : CurP [K.bool]) => True ∧ ∃ (S : View), View.Le S (View.sets (View.put V b (Obj.cells (Array.mk [Value.int IntKind.i64 (0 : Int), Value.int IntKind.i64 (0 : Int)]) (33 : Nat))) (Addr.mk b (0 : Nat) none) [Value.int IntKind.i64 x_1, Value.int IntKind.i64 x_2]) ∧ ∃ (a : Addr), a0 = some a ∧ ∃ (x : Option Addr), View.cell? S (Addr.add a (7 : Nat)) = some (Value.pointer x) ∧ ∃ (x_3 : Int), ∃ (x_4 : Int), cellsAt S (Addr.mk b (0 : Nat) none) [Value.int IntKind.i64 x_3, Value.int IntKind.i64 x_4] ∧ (CallV Tryz.prog (43 : Nat) (Array.mk [Value.pointer x, Value.agg (Array.mk [Value.int IntKind.i64 x_3, Value.int IntKind.i64 x_4])]) (View.sets (View.put V b (Obj.cells (Array.mk [Value.int IntKind.i64 (0 : Int), Value.int IntKind.i64 (0 : Int)]) (33 : Nat))) (Addr.mk b (0 : Nat) none) [Value.int IntKind.i64 x_1, Value.int IntKind.i64 x_2]) fun (r : Value) (V : View) => ∃ (x : Int), ∃ (x_5 : Int), ∃ (x_6 : Bool), r = Value.tuple (Array.mk [Value.agg (Array.mk [Value.int IntKind.i64 x, Value.int IntKind.i64 x_5]), Value.bool x_6]) ∧ View.Le S V ∧ ∀ (b : Nat), View.Le S V ∧ J x_6 V) ∧ ∀ (b_1 : Nat), View.Le S (View.sets (View.put V b (Obj.cells (Array.mk [Value.int IntKind.i64 (0 : Int), Value.int IntKind.i64 (0 : Int)]) (33 : Nat))) (Addr.mk b (0 : Nat) none) [Value.int IntKind.i64 x_1, Value.int IntKind.i64 x_2]) ∧ CallV Tryz.prog (43 : Nat) (Array.mk [Value.pointer x, Value.agg (Array.mk [Value.int IntKind.i64 x_3, Value.int IntKind.i64 x_4])]) (View.sets (View.put V b (Obj.cells (Array.mk [Value.int IntKind.i64 (0 : Int), Value.int IntKind.i64 (0 : Int)]) (33 : Nat))) (Addr.mk b (0 : Nat) none) [Value.int IntKind.i64 x_1, Value.int IntKind.i64 x_2]) fun (r : Value) (V : View) => ∃ (x : Int), ∃ (x_5 : Int), ∃ (x_6 : Bool), r = Value.tuple (Array.mk [Value.agg (Array.mk [Value.int IntKind.i64 x, Value.int IntKind.i64 x_5]), Value.bool x_6]) ∧ View.Le S V ∧ J x_6 V) fun (x_3 : Bool) (V : View) => joinP [K.bool] (fun (J : CurP [K.bool]) => br (!x_3) (J true V) (∃ (x_4 : Int), View.cell? V (Addr.mk b (0 : Nat) none) = some (Value.int IntKind.i64 x_4) ∧ br (decide (x_4 = (0 : Int))) (J true V) ((0 : Int) ≤ (0 : Int) ∧ (0 : Int) ≤ x ∧ x ≤ (↑(Sl.c a1) : Int) ∧ CallV Tryz.prog (122 : Nat) (Array.mk [Value.slice (if Sl.c a1 = (0 : Nat) then Sl.a a1 else Option.map (fun (x : Addr) => Addr.add x (0 : Nat)) (Sl.a a1)) (Int.toNat x - (0 : Nat)) (Sl.c a1 - (0 : Nat)), Value.func (Fn.func (123 : Nat)) (Array.mk []) (Array.mk [Value.pointer (some (Addr.mk b (0 : Nat) none))])]) V fun (r : Value) (V : View) => ∃ (x : Bool), r = Value.bool x ∧ J x V))) fun (x_4 : Bool) (V : View) => br x_4 (Q (Value.bool true) V) (inI IntKind.i64 (x + (1 : Int)) ∧ J (x + (1 : Int)) V)) (∃ (a : Addr), a0 = some a ∧ ∃ (x : Int), View.cell? V (Addr.add (Addr.add a (1 : Nat)) (3 : Nat)) = some (Value.int IntKind.i64 x) ∧ Q (Value.bool (decide (x < (↑(Sl.n a1) : Int)))) V)) ((0 : Int), ()) V
def f91_ac : AC := (.seq (.reg ⟨.done, false, [], [], none⟩) (.seq (.seq (.reg ⟨.done, false, [], [], none⟩) (.block none (.loop ⟨[5, 6, 7, 8, 12, 13, 14, 15, 16, 17, 18, 19, 20, 21, 22, 23, 24, 25, 26, 27, 28, 29, 30, 31, 32, 33, 34, 35, 36, 37, 38, 39], [(11, .int .i64)], []⟩ (.seq (.reg ⟨.done, false, [], [], none⟩) (.seq (.cond none .leaf .leaf) (.seq (.block none (.seq (.reg ⟨.done, false, [(4, 0)], [], none⟩) (.seq (.regn ⟨(.fl 0 (.fl 1 (.fl 2 (.fl 3 (.fl 4 (.alt 5 true false (.fl 6 (.fl 7 (.fl 8 (.alt 9 true false (.alt 10 false false (.fl 11 .done) .no) .no)))) (.alt 9 true false (.alt 5 true false (.fl 6 (.fl 7 (.fl 8 (.alt 10 false false (.fl 11 .done) .no)))) .no) .no))))))), true, [], [], (some ⟨[7, 16, 17, 18, 19, 20, 21, 22, 23, 24], [(8, .bool)], []⟩)⟩ []) (.seq (.reg ⟨.done, false, [], [], (some ⟨[25, 26, 27, 28, 29, 30, 31, 32, 33, 34, 35, 36, 37], [(38, .bool)], []⟩)⟩) (.cond none (.seq (.reg ⟨.done, false, [], [], none⟩) .leaf) .leaf))))) (.reg ⟨.done, false, [], [], none⟩))))))) (.seq (.reg ⟨.done, false, [], [], none⟩) .leaf)))
theorem f91_x {a0 : Option Addr} {a1 : Sl} {V : View} {Q : Value → View → Prop} (h : f91_n a0 a1 V Q) : CallV Tryz.prog 91 ⟨[(.pointer a0), (.slice a1.a a1.n a1.c)]⟩ V Q :=
  XF_sound (wr := false) Tryz.checked.mixed (enters_of (fn := Tryz.f91) (by kernel_rfl) (by kernel_rfl) (by kernel_rfl)) (fn := Tryz.f91) (by kernel_rfl) (ac := f91_ac)
    (Eq.mp (show f91_n a0 a1 V Q = XF Tryz.prog false Tryz.f91 (f91_ac) [(.pointer a0), (.slice a1.a a1.n a1.c)] V Q from by kernel_rfl) h)
/-- slices.IndexFunc[[]potsherd/api.Found,potsherd/api.Found] -/
def f92_n (a0 : Sl) (g1 : FuncId) (x1 : List Value) (y1 : List Value) (V : View) (Q : Value → View → Prop) : Prop :=
    loopP [K.int IntKind.i64] (fun (x : Int) (V : View) (J : CurP [K.int IntKind.i64]) => br (decide (x < (↑(Sl.n a0) : Int))) ((0 : Int) ≤ x ∧ x < (↑(Sl.n a0) : Int) ∧ ∃ (ad : Addr), Sl.a a0 = some ad ∧ ∃ (x_1 : Int), ∃ (x_2 : Int), ∃ (x_3 : Int), ∃ (x_4 : Int), cellsAt V (Addr.add ad (Int.toNat x * (4 : Nat))) [Value.int IntKind.i64 x_1, Value.int IntKind.i64 x_2, Value.int IntKind.i64 x_3, Value.int IntKind.i64 x_4] ∧ CallV Tryz.prog g1 (Array.mk (Array.toList (Array.mk x1) ++ [Value.agg (Array.mk [Value.int IntKind.i64 x_1, Value.int IntKind.i64 x_2, Value.int IntKind.i64 x_3, Value.int IntKind.i64 x_4])] ++ Array.toList (Array.mk y1))) V fun (r : Value) (V : View) => ∃ (x_5 : Bool), r = Value.bool x_5 ∧ br x_5 (Q (Value.int IntKind.i64 x) V) (inI IntKind.i64 (x + (1 : Int)) ∧ J (x + (1 : Int)) V)) (Q (Value.int IntKind.i64 (-1 : Int)) V)) ((0 : Int), ()) V
def f92_ac : AC := (.seq (.reg ⟨.done, false, [], [], none⟩) (.seq (.seq (.reg ⟨.done, false, [], [], none⟩) (.block none (.loop ⟨[5, 9, 10, 11, 12, 13, 14, 15, 16, 18], [(8, .int .i64)], []⟩ (.seq (.reg ⟨.done, false, [], [], none⟩) (.seq (.cond none .leaf .leaf) (.seq (.block none (.seq (.reg ⟨.done, false, [], [], none⟩) (.seq (.reg ⟨.done, false, [], [], none⟩) (.cond none (.seq (.reg ⟨.done, false, [], [], none⟩) .leaf) .leaf)))) (.reg ⟨.done, false, [], [], none⟩))))))) (.seq (.reg ⟨.done, false, [], [], none⟩) .leaf)))
theorem f92_x {a0 : Sl} {g1 : FuncId} {x1 : List Value} {y1 : List Value} {V : View} {Q : Value → View → Prop} (h : f92_n a0 g1 x1 y1 V Q) : CallV Tryz.prog 92 ⟨[(.slice a0.a a0.n a0.c), (.func (.func g1) ⟨x1⟩ ⟨y1⟩)]⟩ V Q :=
  XF_sound (wr := false) Tryz.checked.mixed (enters_of (fn := Tryz.f92) (by kernel_rfl) (by kernel_rfl) (by kernel_rfl)) (fn := Tryz.f92) (by kernel_rfl) (ac := f92_ac)
    (Eq.mp (show f92_n a0 g1 x1 y1 V Q = XF Tryz.prog false Tryz.f92 (f92_ac) [(.slice a0.a a0.n a0.c), (.func (.func g1) ⟨x1⟩ ⟨y1⟩)] V Q from by kernel_rfl) h)
/-- potsherd/place.order -/
def f94_n (a0_0 : Int) (a0_1 : Int) (a0_2 : Int) (a0_3 : Int) (a1_0 : Int) (a1_1 : Int) (a1_2 : Int) (a1_3 : Int) (V : View) (Q : Value → View → Prop) : Prop :=
    ∀ (b b : Nat), True ∧ ∃ (S : View), View.Le S V ∧ CallV Tryz.prog (60 : Nat) (Array.mk [Value.int IntKind.i64 a0_2, Value.int IntKind.i64 a1_2]) V fun (r : Value) (V : View) => ∃ (x : Int), r = Value.int IntKind.i64 x ∧ View.Le S V ∧ CallV Tryz.prog (60 : Nat) (Array.mk [Value.int IntKind.i64 a0_3, Value.int IntKind.i64 a1_3]) V fun (r : Value) (V : View) => ∃ (x_1 : Int), r = Value.int IntKind.i64 x_1 ∧ newB V (Obj.cells (Array.mk (putL (putL [Value.int IntKind.i64 (0 : Int), Value.int IntKind.i64 (0 : Int)] (0 : Nat) [Value.int IntKind.i64 x]) (1 : Nat) [Value.int IntKind.i64 x_1])) (3 : Nat)) fun (r : Nat) (V : View) => CallV Tryz.prog (59 : Nat) (Array.mk [Value.slice (some (Addr.mk r (0 : Nat) none)) (2 : Nat) (2 : Nat)]) V fun (r : Value) (V : View) => ∃ (x : Int), r = Value.int IntKind.i64 x ∧ Q (Value.int IntKind.i64 x) V
def f94_ac : AC := (.seq (.reg ⟨.done, false, [], [], none⟩) (.seq (.reg ⟨(.fl 0 (.fl 1 (.fl 2 (.fl 3 (.fl 4 (.fl 5 (.fl 7 (.fl 8 (.fl 9 (.fl 10 (.fl 11 (.fl 12 (.alt 6 true false (.alt 13 false false (.alt 14 false false (.alt 15 false false (.fl 16 .done) .no) .no) .no) .no))))))))))))), true, [], [], none⟩) .leaf))
theorem f94_x {a0_0 : Int} {a0_1 : Int} {a0_2 : Int} {a0_3 : Int} {a1_0 : Int} {a1_1 : Int} {a1_2 : Int} {a1_3 : Int} {V : View} {Q : Value → View → Prop} (h : f94_n a0_0 a0_1 a0_2 a0_3 a1_0 a1_1 a1_2 a1_3 V Q) : CallV Tryz.prog 94 ⟨[(.agg ⟨[(.int .i64 a0_0), (.int .i64 a0_1), (.int .i64 a0_2), (.int .i64 a0_3)]⟩), (.agg ⟨[(.int .i64 a1_0), (.int .i64 a1_1), (.int .i64 a1_2), (.int .i64 a1_3)]⟩)]⟩ V Q :=
  XF_sound (wr := false) Tryz.checked.mixed (enters_of (fn := Tryz.f94) (by kernel_rfl) (by kernel_rfl) (by kernel_rfl)) (fn := Tryz.f94) (by kernel_rfl) (ac := f94_ac)
    (Eq.mp (show f94_n a0_0 a0_1 a0_2 a0_3 a1_0 a1_1 a1_2 a1_3 V Q = XF Tryz.prog false Tryz.f94 (f94_ac) [(.agg ⟨[(.int .i64 a0_0), (.int .i64 a0_1), (.int .i64 a0_2), (.int .i64 a0_3)]⟩), (.agg ⟨[(.int .i64 a1_0), (.int .i64 a1_1), (.int .i64 a1_2), (.int .i64 a1_3)]⟩)] V Q from by kernel_rfl) h)
/-- slices.Index[[]potsherd/api.Ref,potsherd/api.Ref] -/
def f95_n (a0 : Sl) (a1_0 : Int) (a1_1 : Int) (V : View) (Q : Value → View → Prop) : Prop :=
    ∀ (b : Nat), loopP [K.int IntKind.i64] (fun (x : Int) (V : View) (J : CurP [K.int IntKind.i64]) => br (decide (x < (↑(Sl.n a0) : Int))) (True ∧ ∃ (S : View), View.Le S V ∧ (0 : Int) ≤ x ∧ x < (↑(Sl.n a0) : Int) ∧ ∃ (ad : Addr), Sl.a a0 = some ad ∧ ∃ (x_1 : Int), ∃ (x_2 : Int), cellsAt S (Addr.add ad (Int.toNat x * (2 : Nat))) [Value.int IntKind.i64 x_1, Value.int IntKind.i64 x_2] ∧ True ∧ br (decide (a1_0 = x_1) && (decide (a1_1 = x_2) && true)) (Q (Value.int IntKind.i64 x) V) (inI IntKind.i64 (x + (1 : Int)) ∧ J (x + (1 : Int)) V)) (Q (Value.int IntKind.i64 (-1 : Int)) V)) ((0 : Int), ()) V
def f95_ac : AC := (.seq (.reg ⟨.done, false, [], [], none⟩) (.seq (.seq (.reg ⟨.done, false, [], [], none⟩) (.block none (.loop ⟨[5, 9, 10, 11, 12, 13, 14, 15, 16, 18], [(8, .int .i64)], []⟩ (.seq (.reg ⟨.done, false, [], [], none⟩) (.seq (.cond none .leaf .leaf) (.seq (.block none (.seq (.reg ⟨.done, false, [], [], none⟩) (.seq (.reg ⟨(.fl 0 (.fl 1 (.fl 2 (.fl 3 (.fl 4 (.fl 5 .done)))))), true, [], [], none⟩) (.cond none (.seq (.reg ⟨.done, false, [], [], none⟩) .leaf) .leaf)))) (.reg ⟨.done, false, [], [], none⟩))))))) (.seq (.reg ⟨.done, false, [], [], none⟩) .leaf)))
theorem f95_x {a0 : Sl} {a1_0 : Int} {a1_1 : Int} {V : View} {Q : Value → View → Prop} (h : f95_n a0 a1_0 a1_1 V Q) : CallV Tryz.prog 95 ⟨[(.slice a0.a a0.n a0.c), (.agg ⟨[(.int .i64 a1_0), (.int .i64 a1_1)]⟩)]⟩ V Q :=
  XF_sound (wr := false) Tryz.checked.mixed (enters_of (fn := Tryz.f95) (by kernel_rfl) (by kernel_rfl) (by kernel_rfl)) (fn := Tryz.f95) (by kernel_rfl) (ac := f95_ac)
    (Eq.mp (show f95_n a0 a1_0 a1_1 V Q = XF Tryz.prog false Tryz.f95 (f95_ac) [(.slice a0.a a0.n a0.c), (.agg ⟨[(.int .i64 a1_0), (.int .i64 a1_1)]⟩)] V Q from by kernel_rfl) h)
/-- cmp.isNaN[int] -/
def f99_n (a0 : Int) (V : View) (Q : Value → View → Prop) : Prop :=
    Q (Value.bool !decide (a0 = a0)) V
def f99_ac : AC := (.seq (.reg ⟨.done, false, [], [], none⟩) (.seq (.reg ⟨.done, false, [], [], none⟩) .leaf))
theorem f99_x {a0 : Int} {V : View} {Q : Value → View → Prop} (h : f99_n a0 V Q) : CallV Tryz.prog 99 ⟨[(.int .i64 a0)]⟩ V Q :=
  XF_sound (wr := false) Tryz.checked.mixed (enters_of (fn := Tryz.f99) (by kernel_rfl) (by kernel_rfl) (by kernel_rfl)) (fn := Tryz.f99) (by kernel_rfl) (ac := f99_ac)
    (Eq.mp (show f99_n a0 V Q = XF Tryz.prog false Tryz.f99 (f99_ac) [(.int .i64 a0)] V Q from by kernel_rfl) h)
/-- slices.Index[[]int,int] -/
def f102_n (a0 : Sl) (a1 : Int) (V : View) (Q : Value → View → Prop) : Prop :=
    loopP [K.int IntKind.i64] (fun (x : Int) (V : View) (J : CurP [K.int IntKind.i64]) => br (decide (x < (↑(Sl.n a0) : Int))) ((0 : Int) ≤ x ∧ x < (↑(Sl.n a0) : Int) ∧ ∃ (ad : Addr), Sl.a a0 = some ad ∧ ∃ (x_1 : Int), View.cell? V (Addr.add ad (Int.toNat x * (1 : Nat))) = some (Value.int IntKind.i64 x_1) ∧ br (decide (a1 = x_1)) (Q (Value.int IntKind.i64 x) V) (inI IntKind.i64 (x + (1 : Int)) ∧ J (x + (1 : Int)) V)) (Q (Value.int IntKind.i64 (-1 : Int)) V)) ((0 : Int), ()) V
def f102_ac : AC := (.seq (.reg ⟨.done, false, [], [], none⟩) (.seq (.seq (.reg ⟨.done, false, [], [], none⟩) (.block none (.loop ⟨[5, 9, 10, 11, 12, 13, 14, 15, 16, 18], [(8, .int .i64)], []⟩ (.seq (.reg ⟨.done, false, [], [], none⟩) (.seq (.cond none .leaf .leaf) (.seq (.block none (.seq (.reg ⟨.done, false, [], [], none⟩) (.seq (.reg ⟨.done, false, [], [], none⟩) (.cond none (.seq (.reg ⟨.done, false, [], [], none⟩) .leaf) .leaf)))) (.reg ⟨.done, false, [], [], none⟩))))))) (.seq (.reg ⟨.done, false, [], [], none⟩) .leaf)))
theorem f102_x {a0 : Sl} {a1 : Int} {V : View} {Q : Value → View → Prop} (h : f102_n a0 a1 V Q) : CallV Tryz.prog 102 ⟨[(.slice a0.a a0.n a0.c), (.int .i64 a1)]⟩ V Q :=
  XF_sound (wr := false) Tryz.checked.mixed (enters_of (fn := Tryz.f102) (by kernel_rfl) (by kernel_rfl) (by kernel_rfl)) (fn := Tryz.f102) (by kernel_rfl) (ac := f102_ac)
    (Eq.mp (show f102_n a0 a1 V Q = XF Tryz.prog false Tryz.f102 (f102_ac) [(.slice a0.a a0.n a0.c), (.int .i64 a1)] V Q from by kernel_rfl) h)
/-- potsherd/block.Cleans -/
def f107_n (a0 : Sl) (V : View) (Q : Value → View → Prop) : Prop :=
    loopP [K.sl, K.int IntKind.i64] (fun (x : Sl) (x_1 : Int) (V : View) (J : CurP [K.sl, K.int IntKind.i64]) => br (decide (x_1 < (↑(Sl.n a0) : Int))) ((0 : Int) ≤ x_1 ∧ x_1 < (↑(Sl.n a0) : Int) ∧ ∃ (ad : Addr), Sl.a a0 = some ad ∧ ∃ (x_2 : Bool), ∃ (x_3 : Int), ∃ (x_4 : Int), ∃ (x_5 : Sl), cellsAt V (Addr.add ad (Int.toNat x_1 * (4 : Nat))) [Value.bool x_2, Value.int IntKind.i64 x_3, Value.int IntKind.i64 x_4, Value.slice (Sl.a x_5) (Sl.n x_5) (Sl.c x_5)] ∧ ∀ (b : Nat), CallV Tryz.prog (130 : Nat) (Array.mk [Value.agg (Array.mk [Value.bool x_2, Value.int IntKind.i64 x_3, Value.int IntKind.i64 x_4, Value.slice (Sl.a x_5) (Sl.n x_5) (Sl.c x_5)])]) V fun (r : Value) (V : View) => ∃ (x_6 : Bool), r = Value.bool x_6 ∧ joinP [K.sl] (fun (J : CurP [K.sl]) => br x_6 (newB V (Obj.cells (Array.mk (putL [Value.int IntKind.i64 (0 : Int)] (0 : Nat) [Value.int IntKind.i64 x_1])) (3 : Nat)) fun (r : Nat) (V : View) => apV V (3 : Nat) (1 : Nat) (8 : Nat) [Value.int IntKind.i64 (0 : Int)] (Sl.mk (Sl.a x) (Sl.n x) (Sl.c x)) (Value.slice (some (Addr.mk r (0 : Nat) none)) (1 : Nat) (1 : Nat)) fun (s : Sl) (V : View) => J (Sl.mk (Sl.a s) (Sl.n s) (Sl.c s)) V) (J (Sl.mk (Sl.a x) (Sl.n x) (Sl.c x)) V)) fun (x : Sl) (V : View) => inI IntKind.i64 (x_1 + (1 : Int)) ∧ J (Sl.mk (Sl.a x) (Sl.n x) (Sl.c x)) (x_1 + (1 : Int)) V) (Q (Value.slice (Sl.a x) (Sl.n x) (Sl.c x)) V)) (Sl.mk none (0 : Nat) (0 : Nat), (0 : Int), ()) V
def f107_ac : AC := (.seq (.reg ⟨.done, false, [], [], none⟩) (.seq (.reg ⟨.done, false, [], [], none⟩) (.seq (.seq (.reg ⟨.done, false, [], [], none⟩) (.block none (.loop ⟨[4, 5, 9, 10, 11, 12, 13, 14, 15, 16, 17, 18, 19], [(3, .sl), (8, .int .i64)], []⟩ (.seq (.reg ⟨.done, false, [], [], none⟩) (.seq (.cond none .leaf .leaf) (.seq (.block none (.seq (.reg ⟨.done, false, [], [], none⟩) (.seq (.reg ⟨.done, false, [], [], none⟩) (.cond (some ⟨[15, 16, 17, 18], [(3, .sl)], []⟩) (.reg ⟨.done, false, [], [], none⟩) .leaf)))) (.reg ⟨.done, false, [], [], none⟩))))))) (.seq (.reg ⟨.done, false, [], [], none⟩) .leaf))))
theorem f107_x {a0 : Sl} {V : View} {Q : Value → View → Prop} (h : f107_n a0 V Q) : CallV Tryz.prog 107 ⟨[(.slice a0.a a0.n a0.c)]⟩ V Q :=
  XF_sound (wr := false) Tryz.checked.mixed (enters_of (fn := Tryz.f107) (by kernel_rfl) (by kernel_rfl) (by kernel_rfl)) (fn := Tryz.f107) (by kernel_rfl) (ac := f107_ac)
    (Eq.mp (show f107_n a0 V Q = XF Tryz.prog false Tryz.f107 (f107_ac) [(.slice a0.a a0.n a0.c)] V Q from by kernel_rfl) h)
/-- potsherd/plan.Floor -/
def f108_n (a0_0 : Int) (a0_1 : Int) (a0_2 : Int) (a0_3 : Int) (a0_4 : Int) (a1 : Int) (V : View) (Q : Value → View → Prop) : Prop :=
    ∀ (b : Nat), CallV Tryz.prog (84 : Nat) (Array.mk [Value.agg (Array.mk [Value.int IntKind.i64 a0_0, Value.int IntKind.i64 a0_1, Value.int IntKind.i64 a0_2, Value.int IntKind.i64 a0_3, Value.int IntKind.i64 a0_4])]) V fun (r : Value) (V : View) => ∃ (x : Bool), r = Value.bool x ∧ br (bif !x then true else decide (a1 < (0 : Int))) (Q (Value.int IntKind.i64 (0 : Int)) V) (inI IntKind.i64 (a0_2 - a1) ∧ inI IntKind.i64 (a0_2 - a1 + (1 : Int)) ∧ Q (Value.int IntKind.i64 (if (0 : Int) > a0_2 - a1 + (1 : Int) then (0 : Int) else a0_2 - a1 + (1 : Int))) V)
def f108_ac : AC := (.seq (.reg ⟨.done, false, [], [], none⟩) (.seq (.seq (.reg ⟨.done, false, [], [], none⟩) (.cond none (.seq (.reg ⟨.done, false, [], [], none⟩) .leaf) .leaf)) (.seq (.reg ⟨.done, false, [], [], none⟩) .leaf)))
theorem f108_x {a0_0 : Int} {a0_1 : Int} {a0_2 : Int} {a0_3 : Int} {a0_4 : Int} {a1 : Int} {V : View} {Q : Value → View → Prop} (h : f108_n a0_0 a0_1 a0_2 a0_3 a0_4 a1 V Q) : CallV Tryz.prog 108 ⟨[(.agg ⟨[(.int .i64 a0_0), (.int .i64 a0_1), (.int .i64 a0_2), (.int .i64 a0_3), (.int .i64 a0_4)]⟩), (.int .i64 a1)]⟩ V Q :=
  XF_sound (wr := false) Tryz.checked.mixed (enters_of (fn := Tryz.f108) (by kernel_rfl) (by kernel_rfl) (by kernel_rfl)) (fn := Tryz.f108) (by kernel_rfl) (ac := f108_ac)
    (Eq.mp (show f108_n a0_0 a0_1 a0_2 a0_3 a0_4 a1 V Q = XF Tryz.prog false Tryz.f108 (f108_ac) [(.agg ⟨[(.int .i64 a0_0), (.int .i64 a0_1), (.int .i64 a0_2), (.int .i64 a0_3), (.int .i64 a0_4)]⟩), (.int .i64 a1)] V Q from by kernel_rfl) h)
/-- (*potsherd/chip.Chip).has -/
def f112_n (a0 : Option Addr) (a1 : Int) (V : View) (Q : Value → View → Prop) : Prop :=
    joinP [K.bool] (fun (J : CurP [K.bool]) => br (bif !Option.isNone a0 then decide ((0 : Int) ≤ a1) else false) (∃ (a : Addr), a0 = some a ∧ ∃ (x : Sl), View.cell? V (Addr.add a (0 : Nat)) = some (Value.slice (Sl.a x) (Sl.n x) (Sl.c x)) ∧ J (decide (a1 < (↑(Sl.n x) : Int))) V) (J false V)) fun (x : Bool) (V : View) => Q (Value.bool x) V
def f112_ac : AC := (.seq (.reg ⟨.done, false, [], [], none⟩) (.seq (.reg ⟨.done, false, [], [], (some ⟨[5, 6, 7, 8, 9, 10, 11, 12, 13, 14, 15, 16, 17, 18, 19], [(4, .bool)], []⟩)⟩) .leaf))
theorem f112_x {a0 : Option Addr} {a1 : Int} {V : View} {Q : Value → View → Prop} (h : f112_n a0 a1 V Q) : CallV Tryz.prog 112 ⟨[(.pointer a0), (.int .i64 a1)]⟩ V Q :=
  XF_sound (wr := false) Tryz.checked.mixed (enters_of (fn := Tryz.f112) (by kernel_rfl) (by kernel_rfl) (by kernel_rfl)) (fn := Tryz.f112) (by kernel_rfl) (ac := f112_ac)
    (Eq.mp (show f112_n a0 a1 V Q = XF Tryz.prog false Tryz.f112 (f112_ac) [(.pointer a0), (.int .i64 a1)] V Q from by kernel_rfl) h)
/-- slices.Clone[[][]byte,[]byte] -/
def f113_n (a0 : Sl) (V : View) (Q : Value → View → Prop) : Prop :=
    br (Option.isNone (Sl.a a0)) (Q (Value.slice none (0 : Nat) (0 : Nat)) V) (newB V (Obj.cells (Array.mk []) (24 : Nat)) fun (r : Nat) (V : View) => apV V (24 : Nat) (1 : Nat) (24 : Nat) [Value.slice none (0 : Nat) (0 : Nat)] (Sl.mk (some (Addr.mk r (0 : Nat) none)) (0 : Nat) (0 : Nat)) (Value.slice (Sl.a a0) (Sl.n a0) (Sl.c a0)) fun (s : Sl) (V : View) => Q (Value.slice (Sl.a s) (Sl.n s) (Sl.c s)) V)
def f113_ac : AC := (.seq (.reg ⟨.done, false, [], [], none⟩) (.seq (.seq (.reg ⟨.done, false, [], [], none⟩) (.cond none (.seq (.reg ⟨.done, false, [], [], none⟩) .leaf) .leaf)) (.seq (.reg ⟨.done, false, [], [], none⟩) .leaf)))
theorem f113_x {a0 : Sl} {V : View} {Q : Value → View → Prop} (h : f113_n a0 V Q) : CallV Tryz.prog 113 ⟨[(.slice a0.a a0.n a0.c)]⟩ V Q :=
  XF_sound (wr := false) Tryz.checked.mixed (enters_of (fn := Tryz.f113) (by kernel_rfl) (by kernel_rfl) (by kernel_rfl)) (fn := Tryz.f113) (by kernel_rfl) (ac := f113_ac)
    (Eq.mp (show f113_n a0 V Q = XF Tryz.prog false Tryz.f113 (f113_ac) [(.slice a0.a a0.n a0.c)] V Q from by kernel_rfl) h)
/-- potsherd/sheet.laid -/
def f116_n (a0_0 : Int) (a0_1 : Int) (a0_2 : Sl) (V : View) (Q : Value → View → Prop) : Prop :=
    ∀ (b : Nat), joinP [K.sl] (fun (J : CurP [K.sl]) => True ∧ ∃ (S : View), View.Le S V ∧ (CallV Tryz.prog (135 : Nat) (Array.mk [Value.slice none (0 : Nat) (0 : Nat), Value.int IntKind.i64 a0_0]) V fun (r : Value) (V : View) => ∃ (x : Sl), r = Value.slice (Sl.a x) (Sl.n x) (Sl.c x) ∧ View.Le S V ∧ (CallV Tryz.prog (135 : Nat) (Array.mk [Value.slice (Sl.a x) (Sl.n x) (Sl.c x), Value.int IntKind.i64 a0_1]) V fun (r : Value) (V : View) => ∃ (x : Sl), r = Value.slice (Sl.a x) (Sl.n x) (Sl.c x) ∧ View.Le S V ∧ (CallV Tryz.prog (134 : Nat) (Array.mk [Value.slice (Sl.a x) (Sl.n x) (Sl.c x), Value.slice (Sl.a a0_2) (Sl.n a0_2) (Sl.c a0_2)]) V fun (r : Value) (V : View) => ∃ (x : Sl), r = Value.slice (Sl.a x) (Sl.n x) (Sl.c x) ∧ View.Le S V ∧ newB V (Obj.cells (Array.mk (putL [Value.int IntKind.u8 (0 : Int)] (0 : Nat) [Value.int IntKind.u8 (90 : Int)])) (5 : Nat)) fun (r : Nat) (V : View) => View.Le S V ∧ apV V (5 : Nat) (1 : Nat) (1 : Nat) [Value.int IntKind.u8 (0 : Int)] (Sl.mk (Sl.a x) (Sl.n x) (Sl.c x)) (Value.slice (some (Addr.mk r (0 : Nat) none)) (1 : Nat) (1 : Nat)) fun (s : Sl) (V : View) => J (Sl.mk (Sl.a s) (Sl.n s) (Sl.c s)) V) ∧ newB V (Obj.cells (Array.mk (putL [Value.int IntKind.u8 (0 : Int)] (0 : Nat) [Value.int IntKind.u8 (90 : Int)])) (5 : Nat)) fun (r : Nat) (V : View) => View.Le S V ∧ CallV Tryz.prog (134 : Nat) (Array.mk [Value.slice (Sl.a x) (Sl.n x) (Sl.c x), Value.slice (Sl.a a0_2) (Sl.n a0_2) (Sl.c a0_2)]) V fun (r_1 : Value) (V : View) => ∃ (x : Sl), r_1 = Value.slice (Sl.a x) (Sl.n x) (Sl.c x) ∧ View.Le S V ∧ apV V (5 : Nat) (1 : Nat) (1 : Nat) [Value.int IntKind.u8 (0 : Int)] (Sl.mk (Sl.a x) (Sl.n x) (Sl.c x)) (Value.slice (some (Addr.mk r (0 : Nat) none)) (1 : Nat) (1 : Nat)) fun (s : Sl) (V : View) => J (Sl.mk (Sl.a s) (Sl.n s) (Sl.c s)) V) ∧ newB V (Obj.cells (Array.mk (putL [Value.int IntKind.u8 (0 : Int)] (0 : Nat) [Value.int IntKind.u8 (90 : Int)])) (5 : Nat)) fun (r : Nat) (V : View) => View.Le S V ∧ CallV Tryz.prog (135 : Nat) (Array.mk [Value.slice (Sl.a x) (Sl.n x) (Sl.c x), Value.int IntKind.i64 a0_1]) V fun (r_1 : Value) (V : View) => ∃ (x : Sl), r_1 = Value.slice (Sl.a x) (Sl.n x) (Sl.c x) ∧ View.Le S V ∧ CallV Tryz.prog (134 : Nat) (Array.mk [Value.slice (Sl.a x) (Sl.n x) (Sl.c x), Value.slice (Sl.a a0_2) (Sl.n a0_2) (Sl.c a0_2)]) V fun (r_2 : Value) (V : View) => ∃ (x : Sl), r_2 = Value.slice (Sl.a x) (Sl.n x) (Sl.c x) ∧ View.Le S V ∧ apV V (5 : Nat) (1 : Nat) (1 : Nat) [Value.int IntKind.u8 (0 : Int)] (Sl.mk (Sl.a x) (Sl.n x) (Sl.c x)) (Value.slice (some (Addr.mk r (0 : Nat) none)) (1 : Nat) (1 : Nat)) fun (s : Sl) (V : View) => J (Sl.mk (Sl.a s) (Sl.n s) (Sl.c s)) V) ∧ newB V (Obj.cells (Array.mk (putL [Value.int IntKind.u8 (0 : Int)] (0 : Nat) [Value.int IntKind.u8 (90 : Int)])) (5 : Nat)) fun (r : Nat) (V : View) => View.Le S V ∧ CallV Tryz.prog (135 : Nat) (Array.mk [Value.slice none (0 : Nat) (0 : Nat), Value.int IntKind.i64 a0_0]) V fun (r_1 : Value) (V : View) => ∃ (x : Sl), r_1 = Value.slice (Sl.a x) (Sl.n x) (Sl.c x) ∧ View.Le S V ∧ CallV Tryz.prog (135 : Nat) (Array.mk [Value.slice (Sl.a x) (Sl.n x) (Sl.c x), Value.int IntKind.i64 a0_1]) V fun (r_2 : Value) (V : View) => ∃ (x : Sl), r_2 = Value.slice (Sl.a x) (Sl.n x) (Sl.c x) ∧ View.Le S V ∧ CallV Tryz.prog (134 : Nat) (Array.mk [Value.slice (Sl.a x) (Sl.n x) (Sl.c x), Value.slice (Sl.a a0_2) (Sl.n a0_2) (Sl.c a0_2)]) V fun (r_3 : Value) (V : View) => ∃ (x : Sl), r_3 = Value.slice (Sl.a x) (Sl.n x) (Sl.c x) ∧ View.Le S V ∧ apV V (5 : Nat) (1 : Nat) (1 : Nat) [Value.int IntKind.u8 (0 : Int)] (Sl.mk (Sl.a x) (Sl.n x) (Sl.c x)) (Value.slice (some (Addr.mk r (0 : Nat) none)) (1 : Nat) (1 : Nat)) fun (s : Sl) (V : View) => J (Sl.mk (Sl.a s) (Sl.n s) (Sl.c s)) V) fun (x : Sl) (V : View) => Q (Value.slice (Sl.a x) (Sl.n x) (Sl.c x)) V
def f116_ac : AC := (.seq (.reg ⟨.done, false, [], [], none⟩) (.seq (.reg ⟨(.fl 0 (.fl 1 (.fl 3 (.fl 4 (.fl 6 (.fl 7 (.alt 2 true false (.alt 5 true false (.alt 8 true false (.alt 9 true false (.alt 10 false false (.fl 11 .done) .no) .no) (.alt 9 true false (.alt 8 true false (.alt 10 false false (.fl 11 .done) .no) .no) .no)) (.alt 9 true false (.alt 5 true false (.alt 8 true false (.alt 10 false false (.fl 11 .done) .no) .no) .no) .no)) (.alt 9 true false (.alt 2 true false (.alt 5 true false (.alt 8 true false (.alt 10 false false (.fl 11 .done) .no) .no) .no) .no) .no)))))))), true, [], [], (some ⟨[3, 4, 5, 6, 7, 8, 9, 10, 11, 12, 13], [(2, .sl)], []⟩)⟩) .leaf))
theorem f116_x {a0_0 : Int} {a0_1 : Int} {a0_2 : Sl} {V : View} {Q : Value → View → Prop} (h : f116_n a0_0 a0_1 a0_2 V Q) : CallV Tryz.prog 116 ⟨[(.agg ⟨[(.int .i64 a0_0), (.int .i64 a0_1), (.slice a0_2.a a0_2.n a0_2.c)]⟩)]⟩ V Q :=
  XF_sound (wr := false) Tryz.checked.mixed (enters_of (fn := Tryz.f116) (by kernel_rfl) (by kernel_rfl) (by kernel_rfl)) (fn := Tryz.f116) (by kernel_rfl) (ac := f116_ac)
    (Eq.mp (show f116_n a0_0 a0_1 a0_2 V Q = XF Tryz.prog false Tryz.f116 (f116_ac) [(.agg ⟨[(.int .i64 a0_0), (.int .i64 a0_1), (.slice a0_2.a a0_2.n a0_2.c)]⟩)] V Q from by kernel_rfl) h)
/-- potsherd/block.Left -/
def f117_n (a0_0 : Bool) (a0_1 : Int) (a0_2 : Int) (a0_3 : Sl) (a1 : Int) (V : View) (Q : Value → View → Prop) : Prop :=
    ∀ (b : Nat), br (bif a0_0 then true else decide (a1 ≤ a0_1)) (Q (Value.int IntKind.i64 (0 : Int)) V) (inI IntKind.i64 (a1 - a0_1) ∧ br (decide (a1 - a0_1 < (0 : Int))) (Q (Value.int IntKind.i64 (9223372036854775807 : Int)) V) (inI IntKind.i64 (a1 - a0_1) ∧ Q (Value.int IntKind.i64 (a1 - a0_1)) V))
def f117_ac : AC := (.seq (.reg ⟨.done, false, [], [], none⟩) (.seq (.block none (.seq (.reg ⟨.done, false, [], [], none⟩) (.cond none (.seq (.reg ⟨.done, false, [], [], none⟩) .leaf) (.seq (.reg ⟨.done, false, [], [], none⟩) (.cond none (.seq (.reg ⟨.done, false, [], [], none⟩) .leaf) .leaf))))) (.seq (.reg ⟨.done, false, [], [], none⟩) .leaf)))
theorem f117_x {a0_0 : Bool} {a0_1 : Int} {a0_2 : Int} {a0_3 : Sl} {a1 : Int} {V : View} {Q : Value → View → Prop} (h : f117_n a0_0 a0_1 a0_2 a0_3 a1 V Q) : CallV Tryz.prog 117 ⟨[(.agg ⟨[(.bool a0_0), (.int .i64 a0_1), (.int .i64 a0_2), (.slice a0_3.a a0_3.n a0_3.c)]⟩), (.int .i64 a1)]⟩ V Q :=
  XF_sound (wr := false) Tryz.checked.mixed (enters_of (fn := Tryz.f117) (by kernel_rfl) (by kernel_rfl) (by kernel_rfl)) (fn := Tryz.f117) (by kernel_rfl) (ac := f117_ac)
    (Eq.mp (show f117_n a0_0 a0_1 a0_2 a0_3 a1 V Q = XF Tryz.prog false Tryz.f117 (f117_ac) [(.agg ⟨[(.bool a0_0), (.int .i64 a0_1), (.int .i64 a0_2), (.slice a0_3.a a0_3.n a0_3.c)]⟩), (.int .i64 a1)] V Q from by kernel_rfl) h)
/-- (*potsherd/pool.Pool).another -/
def f118_n (a0 : Option Addr) (V : View) (Q : Value → View → Prop) : Prop :=
    loopP [] (fun (V : View) (J : CurP []) => CallV Tryz.prog (41 : Nat) (Array.mk [Value.pointer a0]) V fun (r : Value) (V : View) => ∃ (x : Int), r = Value.int IntKind.i64 x ∧ br (!decide (x = (0 : Int))) (Q (Value.int IntKind.i64 x) V) (CallV Tryz.prog (136 : Nat) (Array.mk [Value.pointer a0]) V fun (r : Value) (V : View) => ∃ (x : Sl), ∃ (x_1 : Sl), r = Value.tuple (Array.mk [Value.slice (Sl.a x) (Sl.n x) (Sl.c x), Value.slice (Sl.a x_1) (Sl.n x_1) (Sl.c x_1)]) ∧ True ∧ ∃ (S : View), View.Le S V ∧ ∃ (a : Addr), a0 = some a ∧ ∃ (x_2 : Int), ∃ (x_3 : Int), ∃ (x_4 : Int), ∃ (x_5 : Int), ∃ (x_6 : Int), cellsAt S (Addr.add a (1 : Nat)) [Value.int IntKind.i64 x_2, Value.int IntKind.i64 x_3, Value.int IntKind.i64 x_4, Value.int IntKind.i64 x_5, Value.int IntKind.i64 x_6] ∧ CallV Tryz.prog (19 : Nat) (Array.mk [Value.pointer a0]) V fun (r : Value) (V : View) => ∃ (x_7 : Int), r = Value.int IntKind.i64 x_7 ∧ View.Le S V ∧ CallV Tryz.prog (108 : Nat) (Array.mk [Value.agg (Array.mk [Value.int IntKind.i64 x_2, Value.int IntKind.i64 x_3, Value.int IntKind.i64 x_4, Value.int IntKind.i64 x_5, Value.int IntKind.i64 x_6]), Value.int IntKind.i64 x_7]) V fun (r : Value) (V : View) => ∃ (x_8 : Int), r = Value.int IntKind.i64 x_8 ∧ br (decide (x_8 < (↑(Sl.n x_1) : Int))) (CallV Tryz.prog (137 : Nat) (Array.mk [Value.slice (Sl.a x) (Sl.n x) (Sl.c x), Value.slice (Sl.a x_1) (Sl.n x_1) (Sl.c x_1)]) V fun (r : Value) (V : View) => ∃ (x : Int), r = Value.int IntKind.i64 x ∧ ∃ (a : Addr), a0 = some a ∧ canSet V (Addr.add a (10 : Nat)) (nat_lit 1) ∧ Q (Value.int IntKind.i64 (0 : Int)) (View.sets V (Addr.add a (10 : Nat)) [Value.int IntKind.i64 x])) (CallV Tryz.prog (138 : Nat) (Array.mk [Value.pointer a0]) V fun (r : Value) (V : View) => ∃ (x : Sl), r = Value.slice (Sl.a x) (Sl.n x) (Sl.c x) ∧ joinP [K.bool] (fun (J : CurP [K.bool]) => True ∧ ∃ (S : View), View.Le S V ∧ br (decide ((↑(Sl.n x) : Int) = (0 : Int))) (J true V) (∃ (a : Addr), a0 = some a ∧ ∃ (x_9 : Option Addr), View.cell? S (Addr.add a (7 : Nat)) = some (Value.pointer x_9) ∧ (0 : Int) ≤ (0 : Int) ∧ (0 : Int) < (↑(Sl.n x) : Int) ∧ ∃ (ad : Addr), Sl.a x = some ad ∧ ∃ (x : Int), View.cell? S (Addr.add ad (0 : Nat)) = some (Value.int IntKind.i64 x) ∧ ∃ (a : Addr), a0 = some a ∧ ∃ (x_10 : Int), View.cell? S (Addr.add (Addr.add a (1 : Nat)) (1 : Nat)) = some (Value.int IntKind.i64 x_10) ∧ CallV Tryz.prog (139 : Nat) (Array.mk [Value.pointer x_9, Value.int IntKind.i64 x]) V fun (r : Value) (V : View) => ∃ (x : Int), r = Value.int IntKind.i64 x ∧ View.Le S V ∧ J (decide (x_10 ≤ x)) V)) fun (x_9 : Bool) (V : View) => br x_9 (Q (Value.int IntKind.i64 (6 : Int)) V) (True ∧ ∃ (S : View), View.Le S V ∧ ∃ (a : Addr), a0 = some a ∧ ∃ (x_10 : Option Addr), View.cell? S (Addr.add a (7 : Nat)) = some (Value.pointer x_10) ∧ (0 : Int) ≤ (0 : Int) ∧ (0 : Int) < (↑(Sl.n x) : Int) ∧ ∃ (ad : Addr), Sl.a x = some ad ∧ ∃ (x_11 : Int), View.cell? S (Addr.add ad (0 : Nat)) = some (Value.int IntKind.i64 x_11) ∧ CallV Tryz.prog (139 : Nat) (Array.mk [Value.pointer x_10, Value.int IntKind.i64 x_11]) V fun (r : Value) (V : View) => ∃ (x_12 : Int), r = Value.int IntKind.i64 x_12 ∧ br (decide ((0 : Int) < x_12)) ((0 : Int) ≤ (0 : Int) ∧ (0 : Int) < (↑(Sl.n x) : Int) ∧ ∃ (ad : Addr), Sl.a x = some ad ∧ ∃ (x : Int), View.cell? V (Addr.add ad (0 : Nat)) = some (Value.int IntKind.i64 x) ∧ CallV Tryz.prog (140 : Nat) (Array.mk [Value.pointer a0, Value.int IntKind.i64 x]) V fun (r : Value) (V : View) => ∃ (x : Int), r = Value.int IntKind.i64 x ∧ Q (Value.int IntKind.i64 x) V) ((0 : Int) ≤ (0 : Int) ∧ (0 : Int) < (↑(Sl.n x) : Int) ∧ ∃ (ad : Addr), Sl.a x = some ad ∧ ∃ (x : Int), View.cell? V (Addr.add ad (0 : Nat)) = some (Value.int IntKind.i64 x) ∧ CallV Tryz.prog (141 : Nat) (Array.mk [Value.pointer a0, Value.int IntKind.i64 x]) V fun (r : Value) (V : View) => ∃ (x : Int), r = Value.int IntKind.i64 x ∧ br (!decide (x = (0 : Int))) (Q (Value.int IntKind.i64 x) V) (J V)))))) () V
def f118_ac : AC := (.seq (.reg ⟨.done, false, [], [], none⟩) (.block none (.loop ⟨[3, 4, 5, 6, 7, 8, 9, 10, 11, 13, 14, 15, 16, 17, 18, 19, 20, 21, 22, 23, 24, 25, 26, 27, 34, 35, 36, 37, 38, 39, 40, 41, 42, 43, 44, 45, 46, 47, 48, 49, 50, 51, 52, 53, 54, 55, 56, 57, 58, 59, 60, 61, 62, 63, 69, 70, 71, 72, 73, 74, 75], [], []⟩ (.block none (.seq (.seq (.reg ⟨.done, false, [], [], none⟩) (.seq (.reg ⟨.done, false, [], [], none⟩) (.cond none (.seq (.reg ⟨.done, false, [], [], none⟩) .leaf) .leaf))) (.seq (.reg ⟨.done, false, [], [], none⟩) (.seq (.seq (.reg ⟨(.fl 0 (.fl 1 (.fl 2 (.fl 3 (.fl 4 (.fl 5 (.fl 6 (.alt 7 true false (.alt 8 false false (.fl 9 .done) .no) .no)))))))), true, [], [], none⟩) (.cond none (.seq (.reg ⟨.done, false, [], [], none⟩) (.seq (.reg ⟨.done, false, [], [], none⟩) .leaf)) .leaf)) (.seq (.reg ⟨.done, false, [], [], none⟩) (.seq (.seq (.reg ⟨(.fl 0 (.fl 1 (.fl 2 (.fl 3 (.fl 4 (.fl 5 (.fl 6 (.fl 7 (.fl 8 (.fl 9 (.fl 10 (.fl 12 (.fl 13 (.fl 14 (.fl 15 (.fl 16 (.alt 11 true false (.fl 17 (.fl 18 .done)) .no))))))))))))))))), true, [], [], (some ⟨[36, 37, 38, 39, 40, 41, 42, 43, 44, 45, 46, 47, 48, 49, 50, 51, 52, 53], [(54, .bool)], []⟩)⟩) (.cond none (.seq (.reg ⟨.done, false, [], [], none⟩) .leaf) .leaf)) (.seq (.seq (.reg ⟨(.fl 0 (.fl 1 (.fl 2 (.fl 3 (.fl 4 (.fl 5 (.fl 6 (.alt 7 false false (.fl 8 .done) .no)))))))), true, [], [], none⟩) (.cond none (.seq (.reg ⟨.done, false, [], [], none⟩) .leaf) .leaf)) (.seq (.reg ⟨.done, false, [], [], none⟩) (.seq (.reg ⟨.done, false, [], [], none⟩) (.cond none (.seq (.reg ⟨.done, false, [], [], none⟩) .leaf) .leaf)))))))))))))
theorem f118_x {a0 : Option Addr} {V : View} {Q : Value → View → Prop} (h : f118_n a0 V Q) : CallV Tryz.prog 118 ⟨[(.pointer a0)]⟩ V Q :=
  XF_sound (wr := false) Tryz.checked.mixed (enters_of (fn := Tryz.f118) (by kernel_rfl) (by kernel_rfl) (by kernel_rfl)) (fn := Tryz.f118) (by kernel_rfl) (ac := f118_ac)
    (Eq.mp (show f118_n a0 V Q = XF Tryz.prog false Tryz.f118 (f118_ac) [(.pointer a0)] V Q from by kernel_rfl) h)
/-- (*potsherd/chip.Chip).Program -/
def f119_n (a0 : Option Addr) (a1_0 : Int) (a1_1 : Int) (a2 : Sl) (V : View) (Q : Value → View → Prop) : Prop :=
    ∀ (b : Nat), CallV Tryz.prog (77 : Nat) (Array.mk [Value.pointer a0, Value.agg (Array.mk [Value.int IntKind.i64 a1_0, Value.int IntKind.i64 a1_1])]) V fun (r : Value) (V : View) => ∃ (x : Bool), r = Value.bool x ∧ br (bif bif !x then true else decide ((↑(Sl.n a2) : Int) < (1 : Int)) then true else decide ((2000 : Int) < (↑(Sl.n a2) : Int))) (Q (Value.int IntKind.i64 (1 : Int)) V) (True ∧ ∃ (S : View), View.Le S V ∧ ∃ (a : Addr), a0 = some a ∧ ∃ (x : Sl), View.cell? S (Addr.add a (0 : Nat)) = some (Value.slice (Sl.a x) (Sl.n x) (Sl.c x)) ∧ (0 : Int) ≤ a1_0 ∧ a1_0 < (↑(Sl.n x) : Int) ∧ ∃ (ad : Addr), Sl.a x = some ad ∧ ∃ (a : Addr), a0 = some a ∧ ∃ (x : Bool), View.cell? V (Addr.add a (9 : Nat)) = some (Value.bool x) ∧ br x (Q (Value.int IntKind.i64 (2 : Int)) V) (∃ (a : Addr), some (Addr.add ad (Int.toNat a1_0 * (4 : Nat))) = some a ∧ ∃ (x : Bool), View.cell? V (Addr.add a (0 : Nat)) = some (Value.bool x) ∧ br x (Q (Value.int IntKind.i64 (3 : Int)) V) (True ∧ ∃ (S : View), View.Le S V ∧ ∃ (a : Addr), some (Addr.add ad (Int.toNat a1_0 * (4 : Nat))) = some a ∧ ∃ (x : Int), View.cell? S (Addr.add a (1 : Nat)) = some (Value.int IntKind.i64 x) ∧ br (!decide (a1_1 = x)) (Q (Value.int IntKind.i64 (4 : Int)) V) (∃ (a : Addr), a0 = some a ∧ ∃ (x : Int), View.cell? V (Addr.add (Addr.add a (2 : Nat)) (1 : Nat)) = some (Value.int IntKind.i64 x) ∧ inI IntKind.i64 (x + (1 : Int)) ∧ ∃ (a : Addr), a0 = some a ∧ canSet V (Addr.add (Addr.add a (2 : Nat)) (1 : Nat)) (nat_lit 1) ∧ ∃ (a_1 : Addr), some (Addr.add ad (Int.toNat a1_0 * (4 : Nat))) = some a_1 ∧ ∃ (x_1 : Int), View.cell? (View.sets V (Addr.add (Addr.add a (2 : Nat)) (1 : Nat)) [Value.int IntKind.i64 (x + (1 : Int))]) (Addr.add a_1 (1 : Nat)) = some (Value.int IntKind.i64 x_1) ∧ inI IntKind.i64 (x_1 + (1 : Int)) ∧ ∃ (a_2 : Addr), some (Addr.add ad (Int.toNat a1_0 * (4 : Nat))) = some a_2 ∧ canSet (View.sets V (Addr.add (Addr.add a (2 : Nat)) (1 : Nat)) [Value.int IntKind.i64 (x + (1 : Int))]) (Addr.add a_2 (1 : Nat)) (nat_lit 1) ∧ True ∧ ∃ (a_3 : Addr), a0 = some a_3 ∧ ∃ (a_4 : Addr), a0 = some a_4 ∧ CallV Tryz.prog (142 : Nat) (Array.mk [Value.pointer (some (Addr.add a_3 (7 : Nat)))]) (View.sets (View.sets V (Addr.add (Addr.add a (2 : Nat)) (1 : Nat)) [Value.int IntKind.i64 (x + (1 : Int))]) (Addr.add a_2 (1 : Nat)) [Value.int IntKind.i64 (x_1 + (1 : Int))]) fun (r : Value) (V : View) => ∃ (x : Bool), r = Value.bool x ∧ CallV Tryz.prog (142 : Nat) (Array.mk [Value.pointer (some (Addr.add a_4 (5 : Nat)))]) V fun (r : Value) (V : View) => ∃ (x_2 : Bool), r = Value.bool x_2 ∧ br x (True ∧ ∃ (S : View), View.Le S V ∧ ∃ (a : Addr), some (Addr.add ad (Int.toNat a1_0 * (4 : Nat))) = some a ∧ ∃ (x : Sl), View.cell? S (Addr.add a (3 : Nat)) = some (Value.slice (Sl.a x) (Sl.n x) (Sl.c x)) ∧ ∃ (a : Addr), a0 = some a ∧ ∃ (x_3 : Int), View.cell? S (Addr.add a (8 : Nat)) = some (Value.int IntKind.i64 x_3) ∧ CallV Tryz.prog (143 : Nat) (Array.mk [Value.slice (Sl.a a2) (Sl.n a2) (Sl.c a2), Value.int IntKind.i64 x_3]) V fun (r : Value) (V : View) => ∃ (x_4 : Sl), r = Value.slice (Sl.a x_4) (Sl.n x_4) (Sl.c x_4) ∧ View.Le S V ∧ (0 : Int) ≤ a1_1 ∧ a1_1 < (↑(Sl.n x) : Int) ∧ ∃ (ad : Addr), Sl.a x = some ad ∧ canSet V (Addr.add ad (Int.toNat a1_1 * (1 : Nat))) (nat_lit 1) ∧ ∃ (a : Addr), a0 = some a ∧ canSet (View.sets V (Addr.add ad (Int.toNat a1_1 * (1 : Nat))) [Value.slice (Sl.a x_4) (Sl.n x_4) (Sl.c x_4)]) (Addr.add a (9 : Nat)) (1 : Nat) ∧ Q (Value.int IntKind.i64 (2 : Int)) (View.sets (View.sets V (Addr.add ad (Int.toNat a1_1 * (1 : Nat))) [Value.slice (Sl.a x_4) (Sl.n x_4) (Sl.c x_4)]) (Addr.add a (9 : Nat)) [Value.bool true])) (br x_2 (True ∧ ∃ (S : View), View.Le S V ∧ ∃ (a : Addr), some (Addr.add ad (Int.toNat a1_0 * (4 : Nat))) = some a ∧ ∃ (x : Sl), View.cell? S (Addr.add a (3 : Nat)) = some (Value.slice (Sl.a x) (Sl.n x) (Sl.c x)) ∧ (2 : Int) ≠ (0 : Int) ∧ inI IntKind.i64 (Int.tdiv (↑(Sl.n a2) : Int) (2 : Int)) ∧ CallV Tryz.prog (143 : Nat) (Array.mk [Value.slice (Sl.a a2) (Sl.n a2) (Sl.c a2), Value.int IntKind.i64 (Int.tdiv (↑(Sl.n a2) : Int) (2 : Int))]) V fun (r : Value) (V : View) => ∃ (x_3 : Sl), r = Value.slice (Sl.a x_3) (Sl.n x_3) (Sl.c x_3) ∧ View.Le S V ∧ (0 : Int) ≤ a1_1 ∧ a1_1 < (↑(Sl.n x) : Int) ∧ ∃ (ad_1 : Addr), Sl.a x = some ad_1 ∧ canSet V (Addr.add ad_1 (Int.toNat a1_1 * (1 : Nat))) (nat_lit 1) ∧ ∃ (a : Addr), some (Addr.add ad (Int.toNat a1_0 * (4 : Nat))) = some a ∧ canSet (View.sets V (Addr.add ad_1 (Int.toNat a1_1 * (1 : Nat))) [Value.slice (Sl.a x_3) (Sl.n x_3) (Sl.c x_3)]) (Addr.add a (0 : Nat)) (1 : Nat) ∧ Q (Value.int IntKind.i64 (3 : Int)) (View.sets (View.sets V (Addr.add ad_1 (Int.toNat a1_1 * (1 : Nat))) [Value.slice (Sl.a x_3) (Sl.n x_3) (Sl.c x_3)]) (Addr.add a (0 : Nat)) [Value.bool true])) (True ∧ ∃ (S : View), View.Le S V ∧ ∃ (a : Addr), some (Addr.add ad (Int.toNat a1_0 * (4 : Nat))) = some a ∧ ∃ (x : Sl), View.cell? S (Addr.add a (3 : Nat)) = some (Value.slice (Sl.a x) (Sl.n x) (Sl.c x)) ∧ CallV Tryz.prog (143 : Nat) (Array.mk [Value.slice (Sl.a a2) (Sl.n a2) (Sl.c a2), Value.int IntKind.i64 (↑(Sl.n a2) : Int)]) V fun (r : Value) (V : View) => ∃ (x_3 : Sl), r = Value.slice (Sl.a x_3) (Sl.n x_3) (Sl.c x_3) ∧ View.Le S V ∧ (0 : Int) ≤ a1_1 ∧ a1_1 < (↑(Sl.n x) : Int) ∧ ∃ (ad : Addr), Sl.a x = some ad ∧ canSet V (Addr.add ad (Int.toNat a1_1 * (1 : Nat))) (nat_lit 1) ∧ Q (Value.int IntKind.i64 (0 : Int)) (View.sets V (Addr.add ad (Int.toNat a1_1 * (1 : Nat))) [Value.slice (Sl.a x_3) (Sl.n x_3) (Sl.c x_3)])))))))
def f119_ac : AC := (.seq (.reg ⟨.done, false, [], [], none⟩) (.seq (.seq (.reg ⟨.done, false, [], [], none⟩) (.cond none (.seq (.reg ⟨.done, false, [], [], none⟩) .leaf) .leaf)) (.seq (.reg ⟨(.fl 0 (.fl 1 (.fl 2 (.fl 3 (.fl 4 (.fl 5 (.fl 6 (.fl 7 .done)))))))), true, [], [], none⟩) (.seq (.block none (.seq (.reg ⟨.done, false, [], [], none⟩) (.cond none (.seq (.reg ⟨.done, false, [], [], none⟩) .leaf) (.seq (.reg ⟨.done, false, [], [], none⟩) (.cond none (.seq (.reg ⟨.done, false, [], [], none⟩) .leaf) (.seq (.reg ⟨(.fl 0 (.fl 1 (.fl 2 (.fl 3 (.fl 4 (.fl 5 (.fl 6 (.fl 7 .done)))))))), true, [], [], none⟩) (.cond none (.seq (.reg ⟨.done, false, [], [], none⟩) .leaf) .leaf))))))) (.seq (.reg ⟨.done, false, [], [], none⟩) (.seq (.reg ⟨.done, false, [], [], none⟩) (.seq (.reg ⟨(.fl 0 (.fl 1 (.fl 2 (.fl 4 (.fl 5 (.fl 6 (.alt 3 false false (.alt 7 false false (.fl 8 (.fl 9 .done)) .no) .no))))))), false, [], [], none⟩) (.seq (.block none (.seq (.reg ⟨.done, false, [], [], none⟩) (.cond none (.seq (.reg ⟨(.fl 0 (.fl 1 (.fl 2 (.fl 3 (.fl 4 (.fl 5 (.fl 6 (.fl 7 (.fl 8 (.fl 9 (.fl 10 (.fl 11 (.alt 12 true false (.fl 13 (.alt 14 false false (.fl 15 (.fl 16 (.alt 17 false false .done .no))) .no)) .no))))))))))))), true, [], [], none⟩) (.seq (.reg ⟨.done, false, [], [], none⟩) .leaf)) (.seq (.reg ⟨.done, false, [], [], none⟩) (.cond none (.seq (.reg ⟨(.fl 0 (.fl 1 (.fl 2 (.fl 3 (.fl 4 (.fl 5 (.fl 6 (.fl 7 (.fl 8 (.fl 9 (.fl 10 (.alt 11 true false (.fl 12 (.alt 13 false false (.fl 14 (.fl 15 (.alt 16 false false .done .no))) .no)) .no)))))))))))), true, [], [], none⟩) (.seq (.reg ⟨.done, false, [], [], none⟩) .leaf)) .leaf))))) (.seq (.reg ⟨(.fl 0 (.fl 1 (.fl 2 (.fl 3 (.fl 4 (.fl 5 (.fl 6 (.fl 7 (.fl 8 (.alt 9 true false (.fl 10 (.alt 11 false false .done .no)) .no)))))))))), true, [], [], none⟩) (.seq (.reg ⟨.done, false, [], [], none⟩) .leaf))))))))))
theorem f119_x {a0 : Option Addr} {a1_0 : Int} {a1_1 : Int} {a2 : Sl} {V : View} {Q : Value → View → Prop} (h : f119_n a0 a1_0 a1_1 a2 V Q) : CallV Tryz.prog 119 ⟨[(.pointer a0), (.agg ⟨[(.int .i64 a1_0), (.int .i64 a1_1)]⟩), (.slice a2.a a2.n a2.c)]⟩ V Q :=
  XF_sound (wr := false) Tryz.checked.mixed (enters_of (fn := Tryz.f119) (by kernel_rfl) (by kernel_rfl) (by kernel_rfl)) (fn := Tryz.f119) (by kernel_rfl) (ac := f119_ac)
    (Eq.mp (show f119_n a0 a1_0 a1_1 a2 V Q = XF Tryz.prog false Tryz.f119 (f119_ac) [(.pointer a0), (.agg ⟨[(.int .i64 a1_0), (.int .i64 a1_1)]⟩), (.slice a2.a a2.n a2.c)] V Q from by kernel_rfl) h)
/-- (*potsherd/bytes.Reader).off -/
def f120_n (a0 : Option Addr) (V : View) (Q : Value → View → Prop) : Prop :=
    joinP [K.bool] (fun (J : CurP [K.bool]) => br (Option.isNone a0) (J true V) (∃ (a : Addr), a0 = some a ∧ ∃ (x : Int), View.cell? V (Addr.add a (1 : Nat)) = some (Value.int IntKind.i64 x) ∧ J (!decide (x = (0 : Int))) V)) fun (x : Bool) (V : View) => Q (Value.bool x) V
def f120_ac : AC := (.seq (.reg ⟨.done, false, [], [], none⟩) (.seq (.reg ⟨.done, false, [], [], (some ⟨[3, 4, 5, 6, 7, 8, 9, 10, 11], [(2, .bool)], []⟩)⟩) .leaf))
theorem f120_x {a0 : Option Addr} {V : View} {Q : Value → View → Prop} (h : f120_n a0 V Q) : CallV Tryz.prog 120 ⟨[(.pointer a0)]⟩ V Q :=
  XF_sound (wr := false) Tryz.checked.mixed (enters_of (fn := Tryz.f120) (by kernel_rfl) (by kernel_rfl) (by kernel_rfl)) (fn := Tryz.f120) (by kernel_rfl) (ac := f120_ac)
    (Eq.mp (show f120_n a0 V Q = XF Tryz.prog false Tryz.f120 (f120_ac) [(.pointer a0)] V Q from by kernel_rfl) h)
/-- potsherd/bytes.number -/
def f121_n (a0 : Sl) (a1 : Int) (V : View) (Q : Value → View → Prop) : Prop :=
    (0 : Int) ≤ (0 : Int) ∧ ((0 : Int) ≤ if (6 : Int) < (↑(Sl.n a0) : Int) then (6 : Int) else (↑(Sl.n a0) : Int)) ∧ (if (6 : Int) < (↑(Sl.n a0) : Int) then (6 : Int) else (↑(Sl.n a0) : Int)) ≤ (↑(Sl.c a0) : Int) ∧ loopP [K.int IntKind.i64, K.int IntKind.i64] (fun (x x_1 : Int) (V : View) (J : CurP [K.int IntKind.i64, K.int IntKind.i64]) => br (decide (x_1 < (↑(Int.toNat (if (6 : Int) < (↑(Sl.n a0) : Int) then (6 : Int) else (↑(Sl.n a0) : Int)) - (0 : Nat)) : Int))) ((0 : Int) ≤ x_1 ∧ x_1 < (↑(Int.toNat (if (6 : Int) < (↑(Sl.n a0) : Int) then (6 : Int) else (↑(Sl.n a0) : Int)) - (0 : Nat)) : Int) ∧ ∃ (ad : Addr), (if Sl.c a0 = (0 : Nat) then Sl.a a0 else Option.map (fun (x : Addr) => Addr.add x (0 : Nat)) (Sl.a a0)) = some ad ∧ ∃ (x_2 : Int), View.cell? V (Addr.add ad (Int.toNat x_1 * (1 : Nat))) = some (Value.int IntKind.u8 x_2) ∧ br (bif decide (x_1 = (0 : Int)) then decide (x_2 = (128 : Int)) else false) (Q (Value.tuple (Array.mk [Value.int IntKind.i64 (0 : Int), Value.int IntKind.i64 (0 : Int)])) V) (inI IntKind.i64 (x * (128 : Int)) ∧ inI IntKind.i64 x_2 ∧ (128 : Int) ≠ (0 : Int) ∧ inI IntKind.i64 (x * (128 : Int) + Int.tmod x_2 (128 : Int)) ∧ br (decide ((128 : Int) ≤ x_2)) (inI IntKind.i64 (x_1 + (1 : Int)) ∧ J (x * (128 : Int) + Int.tmod x_2 (128 : Int)) (x_1 + (1 : Int)) V) (br (decide (a1 < x * (128 : Int) + Int.tmod x_2 (128 : Int))) (Q (Value.tuple (Array.mk [Value.int IntKind.i64 (0 : Int), Value.int IntKind.i64 (0 : Int)])) V) (inI IntKind.i64 (x_1 + (1 : Int)) ∧ Q (Value.tuple (Array.mk [Value.int IntKind.i64 (x * (128 : Int) + Int.tmod x_2 (128 : Int)), Value.int IntKind.i64 (x_1 + (1 : Int))])) V)))) (Q (Value.tuple (Array.mk [Value.int IntKind.i64 (0 : Int), Value.int IntKind.i64 (0 : Int)])) V)) ((0 : Int), (0 : Int), ()) V
def f121_ac : AC := (.seq (.reg ⟨.done, false, [], [], none⟩) (.seq (.reg ⟨.done, false, [], [], none⟩) (.seq (.seq (.reg ⟨.done, false, [], [], none⟩) (.block none (.loop ⟨[7, 8, 16, 17, 18, 19, 20, 21, 22, 23, 24, 25, 26, 27, 28, 29, 30, 31, 32, 33, 40], [(6, .int .i64), (15, .int .i64)], []⟩ (.seq (.reg ⟨.done, false, [], [], none⟩) (.seq (.cond none .leaf .leaf) (.seq (.block none (.seq (.reg ⟨.done, false, [], [], none⟩) (.seq (.seq (.reg ⟨.done, false, [], [], none⟩) (.cond none (.seq (.reg ⟨.done, false, [], [], none⟩) .leaf) .leaf)) (.seq (.reg ⟨.done, false, [], [], none⟩) (.seq (.seq (.reg ⟨.done, false, [], [], none⟩) (.cond none .leaf .leaf)) (.seq (.seq (.reg ⟨.done, false, [], [], none⟩) (.cond none (.seq (.reg ⟨.done, false, [], [], none⟩) .leaf) .leaf)) (.seq (.reg ⟨.done, false, [], [], none⟩) .leaf))))))) (.reg ⟨.done, false, [], [], none⟩))))))) (.seq (.reg ⟨.done, false, [], [], none⟩) .leaf))))
theorem f121_x {a0 : Sl} {a1 : Int} {V : View} {Q : Value → View → Prop} (h : f121_n a0 a1 V Q) : CallV Tryz.prog 121 ⟨[(.slice a0.a a0.n a0.c), (.int .i64 a1)]⟩ V Q :=
  XF_sound (wr := false) Tryz.checked.mixed (enters_of (fn := Tryz.f121) (by kernel_rfl) (by kernel_rfl) (by kernel_rfl)) (fn := Tryz.f121) (by kernel_rfl) (ac := f121_ac)
    (Eq.mp (show f121_n a0 a1 V Q = XF Tryz.prog false Tryz.f121 (f121_ac) [(.slice a0.a a0.n a0.c), (.int .i64 a1)] V Q from by kernel_rfl) h)
/-- slices.ContainsFunc[[]potsherd/api.Ref,potsherd/api.Ref] -/
def f122_n (a0 : Sl) (g1 : FuncId) (x1 : List Value) (y1 : List Value) (V : View) (Q : Value → View → Prop) : Prop :=
    CallV Tryz.prog (144 : Nat) (Array.mk [Value.slice (Sl.a a0) (Sl.n a0) (Sl.c a0), Value.func (Fn.func g1) (Array.mk x1) (Array.mk y1)]) V fun (r : Value) (V : View) => ∃ (x : Int), r = Value.int IntKind.i64 x ∧ Q (Value.bool (decide ((0 : Int) ≤ x))) V
def f122_ac : AC := (.seq (.reg ⟨.done, false, [], [], none⟩) (.seq (.reg ⟨.done, false, [], [], none⟩) .leaf))
theorem f122_x {a0 : Sl} {g1 : FuncId} {x1 : List Value} {y1 : List Value} {V : View} {Q : Value → View → Prop} (h : f122_n a0 g1 x1 y1 V Q) : CallV Tryz.prog 122 ⟨[(.slice a0.a a0.n a0.c), (.func (.func g1) ⟨x1⟩ ⟨y1⟩)]⟩ V Q :=
  XF_sound (wr := false) Tryz.checked.mixed (enters_of (fn := Tryz.f122) (by kernel_rfl) (by kernel_rfl) (by kernel_rfl)) (fn := Tryz.f122) (by kernel_rfl) (ac := f122_ac)
    (Eq.mp (show f122_n a0 g1 x1 y1 V Q = XF Tryz.prog false Tryz.f122 (f122_ac) [(.slice a0.a a0.n a0.c), (.func (.func g1) ⟨x1⟩ ⟨y1⟩)] V Q from by kernel_rfl) h)
/-- (*potsherd/pool.Pool).wrongLive$1 -/
def f123_n (a0_0 : Int) (a0_1 : Int) (z0 : Addr) (V : View) (Q : Value → View → Prop) : Prop :=
    ∀ (b : Nat), ∃ (x : Int), View.cell? V (Addr.add z0 (0 : Nat)) = some (Value.int IntKind.i64 x) ∧ Q (Value.bool (decide (a0_0 = x))) V
def f123_ac : AC := (.seq (.reg ⟨.done, false, [], [], none⟩) (.seq (.reg ⟨.done, false, [], [], none⟩) .leaf))
theorem f123_x {a0_0 : Int} {a0_1 : Int} {z0 : Addr} {V : View} {Q : Value → View → Prop} (h : f123_n a0_0 a0_1 z0 V Q) : CallV Tryz.prog 123 ⟨[(.agg ⟨[(.int .i64 a0_0), (.int .i64 a0_1)]⟩), (.pointer (some z0))]⟩ V Q :=
  XF_sound (wr := false) Tryz.checked.mixed (enters_of (fn := Tryz.f123) (by kernel_rfl) (by kernel_rfl) (by kernel_rfl)) (fn := Tryz.f123) (by kernel_rfl) (ac := f123_ac)
    (Eq.mp (show f123_n a0_0 a0_1 z0 V Q = XF Tryz.prog false Tryz.f123 (f123_ac) [(.agg ⟨[(.int .i64 a0_0), (.int .i64 a0_1)]⟩), (.pointer (some z0))] V Q from by kernel_rfl) h)
/-- potsherd/block.Clean -/
def f130_n (a0_0 : Bool) (a0_1 : Int) (a0_2 : Int) (a0_3 : Sl) (V : View) (Q : Value → View → Prop) : Prop :=
    ∀ (b : Nat), Q (Value.bool (bif !a0_0 then decide (a0_1 = (0 : Int)) else false)) V
def f130_ac : AC := (.seq (.reg ⟨.done, false, [], [], none⟩) (.seq (.reg ⟨.done, false, [], [], none⟩) .leaf))
theorem f130_x {a0_0 : Bool} {a0_1 : Int} {a0_2 : Int} {a0_3 : Sl} {V : View} {Q : Value → View → Prop} (h : f130_n a0_0 a0_1 a0_2 a0_3 V Q) : CallV Tryz.prog 130 ⟨[(.agg ⟨[(.bool a0_0), (.int .i64 a0_1), (.int .i64 a0_2), (.slice a0_3.a a0_3.n a0_3.c)]⟩)]⟩ V Q :=
  XF_sound (wr := false) Tryz.checked.mixed (enters_of (fn := Tryz.f130) (by kernel_rfl) (by kernel_rfl) (by kernel_rfl)) (fn := Tryz.f130) (by kernel_rfl) (ac := f130_ac)
    (Eq.mp (show f130_n a0_0 a0_1 a0_2 a0_3 V Q = XF Tryz.prog false Tryz.f130 (f130_ac) [(.agg ⟨[(.bool a0_0), (.int .i64 a0_1), (.int .i64 a0_2), (.slice a0_3.a a0_3.n a0_3.c)]⟩)] V Q from by kernel_rfl) h)
/-- potsherd/bytes.Text -/
def f134_n (a0 : Sl) (a1 : Sl) (V : View) (Q : Value → View → Prop) : Prop :=
    CallV Tryz.prog (135 : Nat) (Array.mk [Value.slice (Sl.a a0) (Sl.n a0) (Sl.c a0), Value.int IntKind.i64 (↑(Sl.n a1) : Int)]) V fun (r : Value) (V : View) => ∃ (x : Sl), r = Value.slice (Sl.a x) (Sl.n x) (Sl.c x) ∧ apV V (5 : Nat) (1 : Nat) (1 : Nat) [Value.int IntKind.u8 (0 : Int)] (Sl.mk (Sl.a x) (Sl.n x) (Sl.c x)) (Value.slice (Sl.a a1) (Sl.n a1) (Sl.c a1)) fun (s : Sl) (V : View) => Q (Value.slice (Sl.a s) (Sl.n s) (Sl.c s)) V
def f134_ac : AC := (.seq (.reg ⟨.done, false, [], [], none⟩) (.seq (.reg ⟨.done, false, [], [], none⟩) .leaf))
theorem f134_x {a0 : Sl} {a1 : Sl} {V : View} {Q : Value → View → Prop} (h : f134_n a0 a1 V Q) : CallV Tryz.prog 134 ⟨[(.slice a0.a a0.n a0.c), (.slice a1.a a1.n a1.c)]⟩ V Q :=
  XF_sound (wr := false) Tryz.checked.mixed (enters_of (fn := Tryz.f134) (by kernel_rfl) (by kernel_rfl) (by kernel_rfl)) (fn := Tryz.f134) (by kernel_rfl) (ac := f134_ac)
    (Eq.mp (show f134_n a0 a1 V Q = XF Tryz.prog false Tryz.f134 (f134_ac) [(.slice a0.a a0.n a0.c), (.slice a1.a a1.n a1.c)] V Q from by kernel_rfl) h)
/-- potsherd/bytes.Number -/
def f135_n (a0 : Sl) (a1 : Int) (V : View) (Q : Value → View → Prop) : Prop :=
    (128 : Int) ≠ (0 : Int) ∧ newB V (Obj.cells (Array.mk (putL [Value.int IntKind.u8 (0 : Int)] (0 : Nat) [Value.int IntKind.u8 (IntKind.wrap IntKind.u8 (Int.tmod (if (1099511627776 : Int) < if (0 : Int) > a1 then (0 : Int) else a1 then (1099511627776 : Int) else if (0 : Int) > a1 then (0 : Int) else a1) (128 : Int)))])) (5 : Nat)) fun (r : Nat) (V : View) => (128 : Int) ≠ (0 : Int) ∧ inI IntKind.i64 (Int.tdiv (if (1099511627776 : Int) < if (0 : Int) > a1 then (0 : Int) else a1 then (1099511627776 : Int) else if (0 : Int) > a1 then (0 : Int) else a1) (128 : Int)) ∧ loopP [K.int IntKind.i64, K.sl] (fun (x : Int) (x_1 : Sl) (V : View) (J : CurP [K.int IntKind.i64, K.sl]) => br (decide ((0 : Int) < x)) ((128 : Int) ≠ (0 : Int) ∧ inI IntKind.i64 (Int.tmod x (128 : Int) + (128 : Int)) ∧ newB V (Obj.cells (Array.mk (putL [Value.int IntKind.u8 (0 : Int)] (0 : Nat) [Value.int IntKind.u8 (IntKind.wrap IntKind.u8 (Int.tmod x (128 : Int) + (128 : Int)))])) (5 : Nat)) fun (r : Nat) (V : View) => apV V (5 : Nat) (1 : Nat) (1 : Nat) [Value.int IntKind.u8 (0 : Int)] (Sl.mk (Sl.a x_1) (Sl.n x_1) (Sl.c x_1)) (Value.slice (some (Addr.mk r (0 : Nat) none)) (1 : Nat) (1 : Nat)) fun (s : Sl) (V : View) => (128 : Int) ≠ (0 : Int) ∧ inI IntKind.i64 (Int.tdiv x (128 : Int)) ∧ J (Int.tdiv x (128 : Int)) (Sl.mk (Sl.a s) (Sl.n s) (Sl.c s)) V) (CallV Tryz.prog (166 : Nat) (Array.mk [Value.slice (Sl.a x_1) (Sl.n x_1) (Sl.c x_1)]) V fun (r : Value) (V : View) => r = Value.tuple (Array.mk []) ∧ newB V (Obj.cells (Array.mk (putL (putL [Value.slice none (0 : Nat) (0 : Nat), Value.slice none (0 : Nat) (0 : Nat)] (0 : Nat) [Value.slice (Sl.a a0) (Sl.n a0) (Sl.c a0)]) (1 : Nat) [Value.slice (Sl.a x_1) (Sl.n x_1) (Sl.c x_1)])) (24 : Nat)) fun (r : Nat) (V : View) => CallV Tryz.prog (167 : Nat) (Array.mk [Value.slice (some (Addr.mk r (0 : Nat) none)) (2 : Nat) (2 : Nat)]) V fun (r : Value) (V : View) => ∃ (x : Sl), r = Value.slice (Sl.a x) (Sl.n x) (Sl.c x) ∧ Q (Value.slice (Sl.a x) (Sl.n x) (Sl.c x)) V)) (Int.tdiv (if (1099511627776 : Int) < if (0 : Int) > a1 then (0 : Int) else a1 then (1099511627776 : Int) else if (0 : Int) > a1 then (0 : Int) else a1) (128 : Int), Sl.mk (some (Addr.mk r (0 : Nat) none)) (1 : Nat) (1 : Nat), ()) V
def f135_ac : AC := (.seq (.reg ⟨.done, false, [], [], none⟩) (.seq (.reg ⟨.done, false, [], [], none⟩) (.seq (.reg ⟨.done, false, [], [], none⟩) (.seq (.seq (.reg ⟨.done, false, [], [], none⟩) (.block none (.loop ⟨[15, 16, 17, 18, 19, 20, 21, 22, 23, 24, 25], [(1, .int .i64), (5, .sl)], []⟩ (.seq (.seq (.reg ⟨.done, false, [], [], none⟩) (.cond none .leaf .leaf)) (.seq (.block none (.reg ⟨.done, false, [], [], none⟩)) (.reg ⟨.done, false, [], [], none⟩)))))) (.seq (.reg ⟨.done, false, [], [], none⟩) (.seq (.reg ⟨.done, false, [], [], none⟩) .leaf))))))
theorem f135_x {a0 : Sl} {a1 : Int} {V : View} {Q : Value → View → Prop} (h : f135_n a0 a1 V Q) : CallV Tryz.prog 135 ⟨[(.slice a0.a a0.n a0.c), (.int .i64 a1)]⟩ V Q :=
  XF_sound (wr := false) Tryz.checked.mixed (enters_of (fn := Tryz.f135) (by kernel_rfl) (by kernel_rfl) (by kernel_rfl)) (fn := Tryz.f135) (by kernel_rfl) (ac := f135_ac)
    (Eq.mp (show f135_n a0 a1 V Q = XF Tryz.prog false Tryz.f135 (f135_ac) [(.slice a0.a a0.n a0.c), (.int .i64 a1)] V Q from by kernel_rfl) h)
/-- (*potsherd/pool.Pool).blocks -/
def f136_n (a0 : Option Addr) (V : View) (Q : Value → View → Prop) : Prop :=
    ∀ (b : Nat), View.see V b = none → ∃ (x : Option Addr), View.cell? (View.put V b (Obj.cells (Array.mk [Value.pointer a0]) (31 : Nat))) (Addr.mk b (0 : Nat) none) = some (Value.pointer x) ∧ ∃ (a : Addr), x = some a ∧ ∃ (x : Option Addr), View.cell? (View.put V b (Obj.cells (Array.mk [Value.pointer a0]) (31 : Nat))) (Addr.add a (0 : Nat)) = some (Value.pointer x) ∧ CallV Tryz.prog (28 : Nat) (Array.mk [Value.pointer x]) (View.put V b (Obj.cells (Array.mk [Value.pointer a0]) (31 : Nat))) fun (r : Value) (V : View) => ∃ (x : Sl), r = Value.slice (Sl.a x) (Sl.n x) (Sl.c x) ∧ CallV Tryz.prog (107 : Nat) (Array.mk [Value.slice (Sl.a x) (Sl.n x) (Sl.c x)]) V fun (r : Value) (V : View) => ∃ (x_1 : Sl), r = Value.slice (Sl.a x_1) (Sl.n x_1) (Sl.c x_1) ∧ CallV Tryz.prog (168 : Nat) (Array.mk [Value.slice (Sl.a x_1) (Sl.n x_1) (Sl.c x_1), Value.func (Fn.func (169 : Nat)) (Array.mk []) (Array.mk [Value.pointer (some (Addr.mk b (0 : Nat) none))])]) V fun (r : Value) (V : View) => ∃ (x_2 : Sl), r = Value.slice (Sl.a x_2) (Sl.n x_2) (Sl.c x_2) ∧ Q (Value.tuple (Array.mk [Value.slice (Sl.a x) (Sl.n x) (Sl.c x), Value.slice (Sl.a x_2) (Sl.n x_2) (Sl.c x_2)])) V
def f136_ac : AC := (.seq (.reg ⟨.done, false, [(1, 0)], [], none⟩) (.seq (.reg ⟨.done, false, [], [], none⟩) (.seq (.reg ⟨.done, false, [], [], none⟩) .leaf)))
theorem f136_x {a0 : Option Addr} {V : View} {Q : Value → View → Prop} (h : f136_n a0 V Q) : CallV Tryz.prog 136 ⟨[(.pointer a0)]⟩ V Q :=
  XF_sound (wr := false) Tryz.checked.mixed (enters_of (fn := Tryz.f136) (by kernel_rfl) (by kernel_rfl) (by kernel_rfl)) (fn := Tryz.f136) (by kernel_rfl) (ac := f136_ac)
    (Eq.mp (show f136_n a0 V Q = XF Tryz.prog false Tryz.f136 (f136_ac) [(.pointer a0)] V Q from by kernel_rfl) h)
/-- potsherd/pool.coldest -/
def f137_n (a0 : Sl) (a1 : Sl) (V : View) (Q : Value → View → Prop) : Prop :=
    ∀ (b : Nat), View.see V b = none → CallV Tryz.prog (170 : Nat) (Array.mk [Value.slice (Sl.a a1) (Sl.n a1) (Sl.c a1), Value.func (Fn.func (171 : Nat)) (Array.mk []) (Array.mk [Value.pointer (some (Addr.mk b (0 : Nat) none))])]) (View.put V b (Obj.cells (Array.mk [Value.slice (Sl.a a0) (Sl.n a0) (Sl.c a0)]) (65 : Nat))) fun (r : Value) (V : View) => ∃ (x : Int), r = Value.int IntKind.i64 x ∧ Q (Value.int IntKind.i64 x) V
def f137_ac : AC := (.seq (.reg ⟨.done, false, [(1, 0)], [], none⟩) (.seq (.reg ⟨.done, false, [], [], none⟩) .leaf))
theorem f137_x {a0 : Sl} {a1 : Sl} {V : View} {Q : Value → View → Prop} (h : f137_n a0 a1 V Q) : CallV Tryz.prog 137 ⟨[(.slice a0.a a0.n a0.c), (.slice a1.a a1.n a1.c)]⟩ V Q :=
  XF_sound (wr := false) Tryz.checked.mixed (enters_of (fn := Tryz.f137) (by kernel_rfl) (by kernel_rfl) (by kernel_rfl)) (fn := Tryz.f137) (by kernel_rfl) (ac := f137_ac)
    (Eq.mp (show f137_n a0 a1 V Q = XF Tryz.prog false Tryz.f137 (f137_ac) [(.slice a0.a a0.n a0.c), (.slice a1.a a1.n a1.c)] V Q from by kernel_rfl) h)
/-- potsherd/chip.comes -/
def f142_n (a0 : Option Addr) (V : View) (Q : Value → View → Prop) : Prop :=
    ∃ (a : Addr), a0 = some a ∧ ∃ (x : Int), View.cell? V a = some (Value.int IntKind.i64 x) ∧ ∃ (a : Addr), a0 = some a ∧ ∃ (x_1 : Int), View.cell? V a = some (Value.int IntKind.i64 x_1) ∧ inI IntKind.i64 (x_1 - (1 : Int)) ∧ ∃ (a : Addr), a0 = some a ∧ canSet V a (nat_lit 1) ∧ Q (Value.bool (decide (x = (0 : Int)))) (View.sets V a [Value.int IntKind.i64 (if (-1 : Int) > x_1 - (1 : Int) then (-1 : Int) else x_1 - (1 : Int))])
def f142_ac : AC := (.seq (.reg ⟨.done, false, [], [], none⟩) (.seq (.reg ⟨.done, false, [], [], none⟩) (.seq (.reg ⟨.done, false, [], [], none⟩) (.seq (.reg ⟨.done, false, [], [], none⟩) .leaf))))
theorem f142_x {a0 : Option Addr} {V : View} {Q : Value → View → Prop} (h : f142_n a0 V Q) : CallV Tryz.prog 142 ⟨[(.pointer a0)]⟩ V Q :=
  XF_sound (wr := false) Tryz.checked.mixed (enters_of (fn := Tryz.f142) (by kernel_rfl) (by kernel_rfl) (by kernel_rfl)) (fn := Tryz.f142) (by kernel_rfl) (ac := f142_ac)
    (Eq.mp (show f142_n a0 V Q = XF Tryz.prog false Tryz.f142 (f142_ac) [(.pointer a0)] V Q from by kernel_rfl) h)
/-- potsherd/chip.stands -/
def f143_n (a0 : Sl) (a1 : Int) (V : View) (Q : Value → View → Prop) : Prop :=
    (0 : Int) ≤ (0 : Int) ∧ ((0 : Int) ≤ if (↑(Sl.n a0) : Int) < a1 then (↑(Sl.n a0) : Int) else a1) ∧ (if (↑(Sl.n a0) : Int) < a1 then (↑(Sl.n a0) : Int) else a1) ≤ (↑(Sl.c a0) : Int) ∧ apV V (5 : Nat) (1 : Nat) (1 : Nat) [Value.int IntKind.u8 (0 : Int)] (Sl.mk none (0 : Nat) (0 : Nat)) (Value.slice (if Sl.c a0 = (0 : Nat) then Sl.a a0 else Option.map (fun (x : Addr) => Addr.add x (0 : Nat)) (Sl.a a0)) (Int.toNat (if (↑(Sl.n a0) : Int) < a1 then (↑(Sl.n a0) : Int) else a1) - (0 : Nat)) (Sl.c a0 - (0 : Nat))) fun (s : Sl) (V : View) => Q (Value.slice (Sl.a s) (Sl.n s) (Sl.c s)) V
def f143_ac : AC := (.seq (.reg ⟨.done, false, [], [], none⟩) (.seq (.reg ⟨.done, false, [], [], none⟩) .leaf))
theorem f143_x {a0 : Sl} {a1 : Int} {V : View} {Q : Value → View → Prop} (h : f143_n a0 a1 V Q) : CallV Tryz.prog 143 ⟨[(.slice a0.a a0.n a0.c), (.int .i64 a1)]⟩ V Q :=
  XF_sound (wr := false) Tryz.checked.mixed (enters_of (fn := Tryz.f143) (by kernel_rfl) (by kernel_rfl) (by kernel_rfl)) (fn := Tryz.f143) (by kernel_rfl) (ac := f143_ac)
    (Eq.mp (show f143_n a0 a1 V Q = XF Tryz.prog false Tryz.f143 (f143_ac) [(.slice a0.a a0.n a0.c), (.int .i64 a1)] V Q from by kernel_rfl) h)
/-- slices.IndexFunc[[]potsherd/api.Ref,potsherd/api.Ref] -/
def f144_n (a0 : Sl) (g1 : FuncId) (x1 : List Value) (y1 : List Value) (V : View) (Q : Value → View → Prop) : Prop :=
    loopP [K.int IntKind.i64] (fun (x : Int) (V : View) (J : CurP [K.int IntKind.i64]) => br (decide (x < (↑(Sl.n a0) : Int))) ((0 : Int) ≤ x ∧ x < (↑(Sl.n a0) : Int) ∧ ∃ (ad : Addr), Sl.a a0 = some ad ∧ ∃ (x_1 : Int), ∃ (x_2 : Int), cellsAt V (Addr.add ad (Int.toNat x * (2 : Nat))) [Value.int IntKind.i64 x_1, Value.int IntKind.i64 x_2] ∧ CallV Tryz.prog g1 (Array.mk (Array.toList (Array.mk x1) ++ [Value.agg (Array.mk [Value.int IntKind.i64 x_1, Value.int IntKind.i64 x_2])] ++ Array.toList (Array.mk y1))) V fun (r : Value) (V : View) => ∃ (x_3 : Bool), r = Value.bool x_3 ∧ br x_3 (Q (Value.int IntKind.i64 x) V) (inI IntKind.i64 (x + (1 : Int)) ∧ J (x + (1 : Int)) V)) (Q (Value.int IntKind.i64 (-1 : Int)) V)) ((0 : Int), ()) V
def f144_ac : AC := (.seq (.reg ⟨.done, false, [], [], none⟩) (.seq (.seq (.reg ⟨.done, false, [], [], none⟩) (.block none (.loop ⟨[5, 9, 10, 11, 12, 13, 14, 15, 16, 18], [(8, .int .i64)], []⟩ (.seq (.reg ⟨.done, false, [], [], none⟩) (.seq (.cond none .leaf .leaf) (.seq (.block none (.seq (.reg ⟨.done, false, [], [], none⟩) (.seq (.reg ⟨.done, false, [], [], none⟩) (.cond none (.seq (.reg ⟨.done, false, [], [], none⟩) .leaf) .leaf)))) (.reg ⟨.done, false, [], [], none⟩))))))) (.seq (.reg ⟨.done, false, [], [], none⟩) .leaf)))
theorem f144_x {a0 : Sl} {g1 : FuncId} {x1 : List Value} {y1 : List Value} {V : View} {Q : Value → View → Prop} (h : f144_n a0 g1 x1 y1 V Q) : CallV Tryz.prog 144 ⟨[(.slice a0.a a0.n a0.c), (.func (.func g1) ⟨x1⟩ ⟨y1⟩)]⟩ V Q :=
  XF_sound (wr := false) Tryz.checked.mixed (enters_of (fn := Tryz.f144) (by kernel_rfl) (by kernel_rfl) (by kernel_rfl)) (fn := Tryz.f144) (by kernel_rfl) (ac := f144_ac)
    (Eq.mp (show f144_n a0 g1 x1 y1 V Q = XF Tryz.prog false Tryz.f144 (f144_ac) [(.slice a0.a a0.n a0.c), (.func (.func g1) ⟨x1⟩ ⟨y1⟩)] V Q from by kernel_rfl) h)
/-- slices.Reverse[[]byte,byte] -/
def f166_n (a0 : Sl) (V : View) (Q : Value → View → Prop) : Prop :=
    inI IntKind.i64 ((↑(Sl.n a0) : Int) - (1 : Int)) ∧ loopP [K.int IntKind.i64, K.int IntKind.i64] (fun (x x_1 : Int) (V : View) (J : CurP [K.int IntKind.i64, K.int IntKind.i64]) => br (decide (x < x_1)) (True ∧ ∃ (S : View), View.Le S V ∧ (0 : Int) ≤ x_1 ∧ x_1 < (↑(Sl.n a0) : Int) ∧ ∃ (ad : Addr), Sl.a a0 = some ad ∧ ∃ (x_2 : Int), View.cell? S (Addr.add ad (Int.toNat x_1 * (1 : Nat))) = some (Value.int IntKind.u8 x_2) ∧ (0 : Int) ≤ x ∧ x < (↑(Sl.n a0) : Int) ∧ ∃ (ad : Addr), Sl.a a0 = some ad ∧ ∃ (x_3 : Int), View.cell? S (Addr.add ad (Int.toNat x * (1 : Nat))) = some (Value.int IntKind.u8 x_3) ∧ (0 : Int) ≤ x ∧ x < (↑(Sl.n a0) : Int) ∧ ∃ (ad : Addr), Sl.a a0 = some ad ∧ canSet V (Addr.add ad (Int.toNat x * (1 : Nat))) (nat_lit 1) ∧ (0 : Int) ≤ x_1 ∧ x_1 < (↑(Sl.n a0) : Int) ∧ ∃ (ad_1 : Addr), Sl.a a0 = some ad_1 ∧ canSet (View.sets V (Addr.add ad (Int.toNat x * (1 : Nat))) [Value.int IntKind.u8 x_2]) (Addr.add ad_1 (Int.toNat x_1 * (1 : Nat))) (nat_lit 1) ∧ inI IntKind.i64 (x + (1 : Int)) ∧ inI IntKind.i64 (x_1 - (1 : Int)) ∧ J (x + (1 : Int)) (x_1 - (1 : Int)) (View.sets (View.sets V (Addr.add ad (Int.toNat x * (1 : Nat))) [Value.int IntKind.u8 x_2]) (Addr.add ad_1 (Int.toNat x_1 * (1 : Nat))) [Value.int IntKind.u8 x_3])) (Q (Value.tuple (Array.mk [])) V)) ((0 : Int), (↑(Sl.n a0) : Int) - (1 : Int), ()) V
def f166_ac : AC := (.seq (.reg ⟨.done, false, [], [], none⟩) (.block none (.loop ⟨[7, 8, 9, 10, 11, 12, 13, 14, 15, 16, 17, 18, 19, 20, 21, 22, 23, 24, 25, 26, 27], [(2, .int .i64), (3, .int .i64)], []⟩ (.seq (.seq (.reg ⟨.done, false, [], [], none⟩) (.cond none .leaf .leaf)) (.seq (.block none (.reg ⟨(.fl 0 (.fl 1 (.fl 2 (.fl 3 (.fl 4 (.fl 5 (.fl 6 (.fl 7 (.fl 8 (.fl 9 (.fl 10 (.fl 11 (.fl 12 (.alt 13 false false (.fl 14 (.alt 15 false false .done .no)) .no)))))))))))))), true, [], [], none⟩)) (.reg ⟨.done, false, [], [], none⟩))))))
theorem f166_x {a0 : Sl} {V : View} {Q : Value → View → Prop} (h : f166_n a0 V Q) : CallV Tryz.prog 166 ⟨[(.slice a0.a a0.n a0.c)]⟩ V Q :=
  XF_sound (wr := false) Tryz.checked.mixed (enters_of (fn := Tryz.f166) (by kernel_rfl) (by kernel_rfl) (by kernel_rfl)) (fn := Tryz.f166) (by kernel_rfl) (ac := f166_ac)
    (Eq.mp (show f166_n a0 V Q = XF Tryz.prog false Tryz.f166 (f166_ac) [(.slice a0.a a0.n a0.c)] V Q from by kernel_rfl) h)
/-- slices.Concat[[]byte,byte] -/
def f167_n (a0 : Sl) (V : View) (Q : Value → View → Prop) : Prop :=
    loopP [K.int IntKind.i64, K.int IntKind.i64] (fun (x x_1 : Int) (V : View) (J : CurP [K.int IntKind.i64, K.int IntKind.i64]) => br (decide (x_1 < (↑(Sl.n a0) : Int))) ((0 : Int) ≤ x_1 ∧ x_1 < (↑(Sl.n a0) : Int) ∧ ∃ (ad : Addr), Sl.a a0 = some ad ∧ ∃ (x_2 : Sl), View.cell? V (Addr.add ad (Int.toNat x_1 * (1 : Nat))) = some (Value.slice (Sl.a x_2) (Sl.n x_2) (Sl.c x_2)) ∧ inI IntKind.i64 (x + (↑(Sl.n x_2) : Int)) ∧ joinP [] (fun (J : CurP []) => br (decide (x + (↑(Sl.n x_2) : Int) < (0 : Int))) False (J V)) fun (V : View) => inI IntKind.i64 (x_1 + (1 : Int)) ∧ J (x + (↑(Sl.n x_2) : Int)) (x_1 + (1 : Int)) V) (CallV Tryz.prog (187 : Nat) (Array.mk [Value.slice none (0 : Nat) (0 : Nat), Value.int IntKind.i64 x]) V fun (r : Value) (V : View) => ∃ (x : Sl), r = Value.slice (Sl.a x) (Sl.n x) (Sl.c x) ∧ loopP [K.sl, K.int IntKind.i64] (fun (x : Sl) (x_2 : Int) (V : View) (J : CurP [K.sl, K.int IntKind.i64]) => br (decide (x_2 < (↑(Sl.n a0) : Int))) ((0 : Int) ≤ x_2 ∧ x_2 < (↑(Sl.n a0) : Int) ∧ ∃ (ad : Addr), Sl.a a0 = some ad ∧ ∃ (x_3 : Sl), View.cell? V (Addr.add ad (Int.toNat x_2 * (1 : Nat))) = some (Value.slice (Sl.a x_3) (Sl.n x_3) (Sl.c x_3)) ∧ apV V (5 : Nat) (1 : Nat) (1 : Nat) [Value.int IntKind.u8 (0 : Int)] (Sl.mk (Sl.a x) (Sl.n x) (Sl.c x)) (Value.slice (Sl.a x_3) (Sl.n x_3) (Sl.c x_3)) fun (s : Sl) (V : View) => inI IntKind.i64 (x_2 + (1 : Int)) ∧ J (Sl.mk (Sl.a s) (Sl.n s) (Sl.c s)) (x_2 + (1 : Int)) V) (Q (Value.slice (Sl.a x) (Sl.n x) (Sl.c x)) V)) (Sl.mk (Sl.a x) (Sl.n x) (Sl.c x), (0 : Int), ()) V)) ((0 : Int), (0 : Int), ()) V
def f167_ac : AC := (.seq (.reg ⟨.done, false, [], [], none⟩) (.seq (.reg ⟨.done, false, [], [], none⟩) (.seq (.seq (.reg ⟨.done, false, [], [], none⟩) (.block none (.loop ⟨[5, 12, 13, 14, 15, 16, 17, 18, 19, 20, 21, 22], [(3, .int .i64), (11, .int .i64)], []⟩ (.seq (.reg ⟨.done, false, [], [], none⟩) (.seq (.cond none .leaf .leaf) (.seq (.block none (.seq (.reg ⟨.done, false, [], [], none⟩) (.seq (.reg ⟨.done, false, [], [], none⟩) (.seq (.reg ⟨.done, false, [], [], none⟩) (.cond (some ⟨[21], [], []⟩) (.reg ⟨.done, false, [], [], none⟩) .leaf))))) (.reg ⟨.done, false, [], [], none⟩))))))) (.seq (.reg ⟨.done, false, [], [], none⟩) (.seq (.seq (.reg ⟨.done, false, [], [], none⟩) (.block none (.loop ⟨[8, 28, 29, 30, 31, 32, 33, 34], [(6, .sl), (27, .int .i64)], []⟩ (.seq (.reg ⟨.done, false, [], [], none⟩) (.seq (.cond none .leaf .leaf) (.seq (.block none (.seq (.reg ⟨.done, false, [], [], none⟩) (.reg ⟨.done, false, [], [], none⟩))) (.reg ⟨.done, false, [], [], none⟩))))))) (.seq (.reg ⟨.done, false, [], [], none⟩) .leaf))))))
theorem f167_x {a0 : Sl} {V : View} {Q : Value → View → Prop} (h : f167_n a0 V Q) : CallV Tryz.prog 167 ⟨[(.slice a0.a a0.n a0.c)]⟩ V Q :=
  XF_sound (wr := false) Tryz.checked.mixed (enters_of (fn := Tryz.f167) (by kernel_rfl) (by kernel_rfl) (by kernel_rfl)) (fn := Tryz.f167) (by kernel_rfl) (ac := f167_ac)
    (Eq.mp (show f167_n a0 V Q = XF Tryz.prog false Tryz.f167 (f167_ac) [(.slice a0.a a0.n a0.c)] V Q from by kernel_rfl) h)
/-- slices.DeleteFunc[[]int,int] -/
def f168_n (a0 : Sl) (g1 : FuncId) (x1 : List Value) (y1 : List Value) (V : View) (Q : Value → View → Prop) : Prop :=
    CallV Tryz.prog (188 : Nat) (Array.mk [Value.slice (Sl.a a0) (Sl.n a0) (Sl.c a0), Value.func (Fn.func g1) (Array.mk x1) (Array.mk y1)]) V fun (r : Value) (V : View) => ∃ (x : Int), r = Value.int IntKind.i64 x ∧ br (decide (x = (-1 : Int))) (Q (Value.slice (Sl.a a0) (Sl.n a0) (Sl.c a0)) V) (inI IntKind.i64 (x + (1 : Int)) ∧ loopP [K.int IntKind.i64, K.int IntKind.i64] (fun (x x_1 : Int) (V : View) (J : CurP [K.int IntKind.i64, K.int IntKind.i64]) => br (decide (x_1 < (↑(Sl.n a0) : Int))) ((0 : Int) ≤ x_1 ∧ x_1 < (↑(Sl.n a0) : Int) ∧ ∃ (ad : Addr), Sl.a a0 = some ad ∧ ∃ (x_2 : Int), View.cell? V (Addr.add ad (Int.toNat x_1 * (1 : Nat))) = some (Value.int IntKind.i64 x_2) ∧ CallV Tryz.prog g1 (Array.mk (Array.toList (Array.mk x1) ++ [Value.int IntKind.i64 x_2] ++ Array.toList (Array.mk y1))) V fun (r : Value) (V : View) => ∃ (x_3 : Bool), r = Value.bool x_3 ∧ joinP [K.int IntKind.i64] (fun (J : CurP [K.int IntKind.i64]) => br (!x_3) ((0 : Int) ≤ x ∧ x < (↑(Sl.n a0) : Int) ∧ ∃ (ad : Addr), Sl.a a0 = some ad ∧ canSet V (Addr.add ad (Int.toNat x * (1 : Nat))) (nat_lit 1) ∧ inI IntKind.i64 (x + (1 : Int)) ∧ J (x + (1 : Int)) (View.sets V (Addr.add ad (Int.toNat x * (1 : Nat))) [Value.int IntKind.i64 x_2])) (J x V)) fun (x : Int) (V : View) => inI IntKind.i64 (x_1 + (1 : Int)) ∧ J x (x_1 + (1 : Int)) V) ((0 : Int) ≤ x ∧ x ≤ (↑(Sl.n a0) : Int) ∧ (↑(Sl.n a0) : Int) ≤ (↑(Sl.c a0) : Int) ∧ (Int.toNat (↑(Sl.n a0) : Int) - Int.toNat x = (0 : Nat) → (0 : Int) ≤ (0 : Int) ∧ (0 : Int) ≤ x ∧ x ≤ (↑(Sl.c a0) : Int) ∧ Q (Value.slice (if Sl.c a0 = (0 : Nat) then Sl.a a0 else Option.map (fun (x : Addr) => Addr.add x (0 : Nat)) (Sl.a a0)) (Int.toNat x - (0 : Nat)) (Sl.c a0 - (0 : Nat))) V) ∧ ((0 : Nat) < Int.toNat (↑(Sl.n a0) : Int) - Int.toNat x → match if Sl.c a0 = Int.toNat x then Sl.a a0 else Option.map (fun (x_2 : Addr) => Addr.add x_2 (Int.toNat x * (1 : Nat))) (Sl.a a0) with | none => (0 : Int) ≤ (0 : Int) ∧ (0 : Int) ≤ x ∧ x ≤ (↑(Sl.c a0) : Int) ∧ Q (Value.slice (if Sl.c a0 = (0 : Nat) then Sl.a a0 else Option.map (fun (x : Addr) => Addr.add x (0 : Nat)) (Sl.a a0)) (Int.toNat x - (0 : Nat)) (Sl.c a0 - (0 : Nat))) V | some ad => (List.all (List.flatten (List.replicate (Int.toNat (↑(Sl.n a0) : Int) - Int.toNat x) [Value.int IntKind.i64 (0 : Int)])) fun (x : Value) => Value.oneCell' x) = true ∧ canSet V ad (List.length (List.flatten (List.replicate (Int.toNat (↑(Sl.n a0) : Int) - Int.toNat x) [Value.int IntKind.i64 (0 : Int)]))) ∧ (0 : Int) ≤ (0 : Int) ∧ (0 : Int) ≤ x ∧ x ≤ (↑(Sl.c a0) : Int) ∧ Q (Value.slice (if Sl.c a0 = (0 : Nat) then Sl.a a0 else Option.map (fun (x : Addr) => Addr.add x (0 : Nat)) (Sl.a a0)) (Int.toNat x - (0 : Nat)) (Sl.c a0 - (0 : Nat))) (View.sets V ad (List.flatten (List.replicate (Int.toNat (↑(Sl.n a0) : Int) - Int.toNat x) [Value.int IntKind.i64 (0 : Int)])))))) (x, x + (1 : Int), ()) V)
def f168_ac : AC := (.seq (.reg ⟨.done, false, [], [], none⟩) (.seq (.reg ⟨.done, false, [], [], none⟩) (.seq (.seq (.reg ⟨.done, false, [], [], none⟩) (.cond none (.seq (.reg ⟨.done, false, [], [], none⟩) .leaf) .leaf)) (.seq (.seq (.reg ⟨.done, false, [], [], none⟩) (.block none (.loop ⟨[7, 16, 17, 18, 19, 20, 21, 22, 23, 24, 25, 26, 27, 28, 29, 30, 31, 32, 33, 34, 35], [(5, .int .i64), (6, .int .i64)], []⟩ (.seq (.seq (.reg ⟨.done, false, [], [], none⟩) (.cond none .leaf .leaf)) (.seq (.block none (.seq (.reg ⟨.done, false, [], [], none⟩) (.seq (.reg ⟨.done, false, [], [], none⟩) (.cond (some ⟨[30, 31, 32, 33, 34, 35], [(5, .int .i64)], []⟩) (.seq (.reg ⟨.done, false, [], [], none⟩) (.reg ⟨.done, false, [], [], none⟩)) .leaf)))) (.reg ⟨.done, false, [], [], none⟩)))))) (.seq (.reg ⟨.done, false, [], [], none⟩) (.seq (.reg ⟨.done, false, [], [], none⟩) .leaf))))))
theorem f168_x {a0 : Sl} {g1 : FuncId} {x1 : List Value} {y1 : List Value} {V : View} {Q : Value → View → Prop} (h : f168_n a0 g1 x1 y1 V Q) : CallV Tryz.prog 168 ⟨[(.slice a0.a a0.n a0.c), (.func (.func g1) ⟨x1⟩ ⟨y1⟩)]⟩ V Q :=
  XF_sound (wr := false) Tryz.checked.mixed (enters_of (fn := Tryz.f168) (by kernel_rfl) (by kernel_rfl) (by kernel_rfl)) (fn := Tryz.f168) (by kernel_rfl) (ac := f168_ac)
    (Eq.mp (show f168_n a0 g1 x1 y1 V Q = XF Tryz.prog false Tryz.f168 (f168_ac) [(.slice a0.a a0.n a0.c), (.func (.func g1) ⟨x1⟩ ⟨y1⟩)] V Q from by kernel_rfl) h)
/-- (*potsherd/pool.Pool).blocks$1 -/
def f169_n (a0 : Int) (z0 : Addr) (V : View) (Q : Value → View → Prop) : Prop :=
    ∃ (x : Option Addr), View.cell? V z0 = some (Value.pointer x) ∧ ∃ (a : Addr), x = some a ∧ ∃ (x : Int), View.cell? V (Addr.add a (10 : Nat)) = some (Value.int IntKind.i64 x) ∧ Q (Value.bool (decide (a0 = x))) V
def f169_ac : AC := (.seq (.reg ⟨.done, false, [], [], none⟩) (.seq (.reg ⟨.done, false, [], [], none⟩) .leaf))
theorem f169_x {a0 : Int} {z0 : Addr} {V : View} {Q : Value → View → Prop} (h : f169_n a0 z0 V Q) : CallV Tryz.prog 169 ⟨[(.int .i64 a0), (.pointer (some z0))]⟩ V Q :=
  XF_sound (wr := false) Tryz.checked.mixed (enters_of (fn := Tryz.f169) (by kernel_rfl) (by kernel_rfl) (by kernel_rfl)) (fn := Tryz.f169) (by kernel_rfl) (ac := f169_ac)
    (Eq.mp (show f169_n a0 z0 V Q = XF Tryz.prog false Tryz.f169 (f169_ac) [(.int .i64 a0), (.pointer (some z0))] V Q from by kernel_rfl) h)
/-- slices.MinFunc[[]int,int] -/
def f170_n (a0 : Sl) (g1 : FuncId) (x1 : List Value) (y1 : List Value) (V : View) (Q : Value → View → Prop) : Prop :=
    joinP [] (fun (J : CurP []) => br (decide ((↑(Sl.n a0) : Int) < (1 : Int))) False (J V)) fun (V : View) => (0 : Int) ≤ (0 : Int) ∧ (0 : Int) < (↑(Sl.n a0) : Int) ∧ ∃ (ad : Addr), Sl.a a0 = some ad ∧ ∃ (x : Int), View.cell? V (Addr.add ad (0 : Nat)) = some (Value.int IntKind.i64 x) ∧ loopP [K.int IntKind.i64, K.int IntKind.i64] (fun (x x_1 : Int) (V : View) (J : CurP [K.int IntKind.i64, K.int IntKind.i64]) => br (decide (x_1 < (↑(Sl.n a0) : Int))) ((0 : Int) ≤ x_1 ∧ x_1 < (↑(Sl.n a0) : Int) ∧ ∃ (ad : Addr), Sl.a a0 = some ad ∧ ∃ (x_2 : Int), View.cell? V (Addr.add ad (Int.toNat x_1 * (1 : Nat))) = some (Value.int IntKind.i64 x_2) ∧ CallV Tryz.prog g1 (Array.mk (Array.toList (Array.mk x1) ++ [Value.int IntKind.i64 x_2, Value.int IntKind.i64 x] ++ Array.toList (Array.mk y1))) V fun (r : Value) (V : View) => ∃ (x_3 : Int), r = Value.int IntKind.i64 x_3 ∧ joinP [K.int IntKind.i64] (fun (J : CurP [K.int IntKind.i64]) => br (decide (x_3 < (0 : Int))) ((0 : Int) ≤ x_1 ∧ x_1 < (↑(Sl.n a0) : Int) ∧ ∃ (ad : Addr), Sl.a a0 = some ad ∧ ∃ (x : Int), View.cell? V (Addr.add ad (Int.toNat x_1 * (1 : Nat))) = some (Value.int IntKind.i64 x) ∧ J x V) (J x V)) fun (x : Int) (V : View) => inI IntKind.i64 (x_1 + (1 : Int)) ∧ J x (x_1 + (1 : Int)) V) (Q (Value.int IntKind.i64 x) V)) (x, (1 : Int), ()) V
def f170_ac : AC := (.seq (.reg ⟨.done, false, [], [], none⟩) (.seq (.seq (.reg ⟨.done, false, [], [], none⟩) (.cond (some ⟨[10], [], []⟩) (.reg ⟨.done, false, [], [], none⟩) .leaf)) (.seq (.reg ⟨.done, false, [], [], none⟩) (.seq (.seq (.reg ⟨.done, false, [], [], none⟩) (.block none (.loop ⟨[14, 15, 16, 17, 18, 19, 20, 21, 22, 23, 24, 25, 26, 27, 28, 29, 30, 31], [(5, .int .i64), (6, .int .i64)], []⟩ (.seq (.seq (.reg ⟨.done, false, [], [], none⟩) (.cond none .leaf .leaf)) (.seq (.block none (.seq (.reg ⟨.done, false, [], [], none⟩) (.cond (some ⟨[28, 29, 30, 31], [(5, .int .i64)], []⟩) (.reg ⟨.done, false, [], [], none⟩) .leaf))) (.reg ⟨.done, false, [], [], none⟩)))))) (.seq (.reg ⟨.done, false, [], [], none⟩) .leaf)))))
theorem f170_x {a0 : Sl} {g1 : FuncId} {x1 : List Value} {y1 : List Value} {V : View} {Q : Value → View → Prop} (h : f170_n a0 g1 x1 y1 V Q) : CallV Tryz.prog 170 ⟨[(.slice a0.a a0.n a0.c), (.func (.func g1) ⟨x1⟩ ⟨y1⟩)]⟩ V Q :=
  XF_sound (wr := false) Tryz.checked.mixed (enters_of (fn := Tryz.f170) (by kernel_rfl) (by kernel_rfl) (by kernel_rfl)) (fn := Tryz.f170) (by kernel_rfl) (ac := f170_ac)
    (Eq.mp (show f170_n a0 g1 x1 y1 V Q = XF Tryz.prog false Tryz.f170 (f170_ac) [(.slice a0.a a0.n a0.c), (.func (.func g1) ⟨x1⟩ ⟨y1⟩)] V Q from by kernel_rfl) h)
/-- potsherd/pool.coldest$1 -/
def f171_n (a0 : Int) (a1 : Int) (z0 : Addr) (V : View) (Q : Value → View → Prop) : Prop :=
    True ∧ ∃ (S : View), View.Le S V ∧ ∃ (x : Sl), View.cell? S z0 = some (Value.slice (Sl.a x) (Sl.n x) (Sl.c x)) ∧ (0 : Int) ≤ a0 ∧ a0 < (↑(Sl.n x) : Int) ∧ ∃ (ad : Addr), Sl.a x = some ad ∧ ∃ (x : Int), View.cell? S (Addr.add (Addr.add ad (Int.toNat a0 * (4 : Nat))) (2 : Nat)) = some (Value.int IntKind.i64 x) ∧ ∃ (x_1 : Sl), View.cell? S z0 = some (Value.slice (Sl.a x_1) (Sl.n x_1) (Sl.c x_1)) ∧ (0 : Int) ≤ a1 ∧ a1 < (↑(Sl.n x_1) : Int) ∧ ∃ (ad : Addr), Sl.a x_1 = some ad ∧ ∃ (x_2 : Int), View.cell? S (Addr.add (Addr.add ad (Int.toNat a1 * (4 : Nat))) (2 : Nat)) = some (Value.int IntKind.i64 x_2) ∧ inI IntKind.i64 (x - x_2) ∧ Q (Value.int IntKind.i64 (x - x_2)) V
def f171_ac : AC := (.seq (.reg ⟨.done, false, [], [], none⟩) (.seq (.reg ⟨(.fl 0 (.fl 1 (.fl 2 (.fl 3 (.fl 4 (.fl 5 (.fl 6 (.fl 7 (.fl 8 (.fl 9 (.fl 10 (.fl 11 .done)))))))))))), true, [], [], none⟩) .leaf))
theorem f171_x {a0 : Int} {a1 : Int} {z0 : Addr} {V : View} {Q : Value → View → Prop} (h : f171_n a0 a1 z0 V Q) : CallV Tryz.prog 171 ⟨[(.int .i64 a0), (.int .i64 a1), (.pointer (some z0))]⟩ V Q :=
  XF_sound (wr := false) Tryz.checked.mixed (enters_of (fn := Tryz.f171) (by kernel_rfl) (by kernel_rfl) (by kernel_rfl)) (fn := Tryz.f171) (by kernel_rfl) (ac := f171_ac)
    (Eq.mp (show f171_n a0 a1 z0 V Q = XF Tryz.prog false Tryz.f171 (f171_ac) [(.int .i64 a0), (.int .i64 a1), (.pointer (some z0))] V Q from by kernel_rfl) h)
/-- slices.Grow[[]byte,byte] -/
def f187_n (a0 : Sl) (a1 : Int) (V : View) (Q : Value → View → Prop) : Prop :=
    joinP [] (fun (J : CurP []) => br (decide (a1 < (0 : Int))) False (J V)) fun (V : View) => inI IntKind.i64 ((↑(Sl.c a0) : Int) - (↑(Sl.n a0) : Int)) ∧ inI IntKind.i64 (a1 - ((↑(Sl.c a0) : Int) - (↑(Sl.n a0) : Int))) ∧ joinP [K.sl] (fun (J : CurP [K.sl]) => br (decide ((0 : Int) < a1 - ((↑(Sl.c a0) : Int) - (↑(Sl.n a0) : Int)))) ((0 : Int) ≤ (0 : Int) ∧ (0 : Int) ≤ (↑(Sl.c a0) : Int) ∧ (↑(Sl.c a0) : Int) ≤ (↑(Sl.c a0) : Int) ∧ apV V (5 : Nat) (1 : Nat) (1 : Nat) [Value.int IntKind.u8 (0 : Int)] (Sl.mk (if Sl.c a0 = (0 : Nat) then Sl.a a0 else Option.map (fun (x : Addr) => Addr.add x (0 : Nat)) (Sl.a a0)) (Int.toNat (↑(Sl.c a0) : Int) - (0 : Nat)) (Sl.c a0 - (0 : Nat))) (Value.int IntKind.i64 (a1 - ((↑(Sl.c a0) : Int) - (↑(Sl.n a0) : Int)))) fun (s : Sl) (V : View) => (0 : Int) ≤ (0 : Int) ∧ (0 : Int) ≤ (↑(Sl.n a0) : Int) ∧ (↑(Sl.n a0) : Int) ≤ (↑(Sl.c s) : Int) ∧ J (Sl.mk (if Sl.c s = (0 : Nat) then Sl.a s else Option.map (fun (x : Addr) => Addr.add x (0 : Nat)) (Sl.a s)) (Int.toNat (↑(Sl.n a0) : Int) - (0 : Nat)) (Sl.c s - (0 : Nat))) V) (J (Sl.mk (Sl.a a0) (Sl.n a0) (Sl.c a0)) V)) fun (x : Sl) (V : View) => Q (Value.slice (Sl.a x) (Sl.n x) (Sl.c x)) V
def f187_ac : AC := (.seq (.reg ⟨.done, false, [], [], none⟩) (.seq (.seq (.reg ⟨.done, false, [], [], none⟩) (.cond (some ⟨[7], [], []⟩) (.reg ⟨.done, false, [], [], none⟩) .leaf)) (.seq (.seq (.reg ⟨.done, false, [], [], none⟩) (.seq (.reg ⟨.done, false, [], [], none⟩) (.cond (some ⟨[17, 18, 19, 20, 21, 22, 23, 24, 25], [(0, .sl)], []⟩) (.reg ⟨.done, false, [], [], none⟩) .leaf))) (.seq (.reg ⟨.done, false, [], [], none⟩) .leaf))))
theorem f187_x {a0 : Sl} {a1 : Int} {V : View} {Q : Value → View → Prop} (h : f187_n a0 a1 V Q) : CallV Tryz.prog 187 ⟨[(.slice a0.a a0.n a0.c), (.int .i64 a1)]⟩ V Q :=
  XF_sound (wr := false) Tryz.checked.mixed (enters_of (fn := Tryz.f187) (by kernel_rfl) (by kernel_rfl) (by kernel_rfl)) (fn := Tryz.f187) (by kernel_rfl) (ac := f187_ac)
    (Eq.mp (show f187_n a0 a1 V Q = XF Tryz.prog false Tryz.f187 (f187_ac) [(.slice a0.a a0.n a0.c), (.int .i64 a1)] V Q from by kernel_rfl) h)
/-- slices.IndexFunc[[]int,int] -/
def f188_n (a0 : Sl) (g1 : FuncId) (x1 : List Value) (y1 : List Value) (V : View) (Q : Value → View → Prop) : Prop :=
    loopP [K.int IntKind.i64] (fun (x : Int) (V : View) (J : CurP [K.int IntKind.i64]) => br (decide (x < (↑(Sl.n a0) : Int))) ((0 : Int) ≤ x ∧ x < (↑(Sl.n a0) : Int) ∧ ∃ (ad : Addr), Sl.a a0 = some ad ∧ ∃ (x_1 : Int), View.cell? V (Addr.add ad (Int.toNat x * (1 : Nat))) = some (Value.int IntKind.i64 x_1) ∧ CallV Tryz.prog g1 (Array.mk (Array.toList (Array.mk x1) ++ [Value.int IntKind.i64 x_1] ++ Array.toList (Array.mk y1))) V fun (r : Value) (V : View) => ∃ (x_2 : Bool), r = Value.bool x_2 ∧ br x_2 (Q (Value.int IntKind.i64 x) V) (inI IntKind.i64 (x + (1 : Int)) ∧ J (x + (1 : Int)) V)) (Q (Value.int IntKind.i64 (-1 : Int)) V)) ((0 : Int), ()) V
def f188_ac : AC := (.seq (.reg ⟨.done, false, [], [], none⟩) (.seq (.seq (.reg ⟨.done, false, [], [], none⟩) (.block none (.loop ⟨[5, 9, 10, 11, 12, 13, 14, 15, 16, 18], [(8, .int .i64)], []⟩ (.seq (.reg ⟨.done, false, [], [], none⟩) (.seq (.cond none .leaf .leaf) (.seq (.block none (.seq (.reg ⟨.done, false, [], [], none⟩) (.seq (.reg ⟨.done, false, [], [], none⟩) (.cond none (.seq (.reg ⟨.done, false, [], [], none⟩) .leaf) .leaf)))) (.reg ⟨.done, false, [], [], none⟩))))))) (.seq (.reg ⟨.done, false, [], [], none⟩) .leaf)))
theorem f188_x {a0 : Sl} {g1 : FuncId} {x1 : List Value} {y1 : List Value} {V : View} {Q : Value → View → Prop} (h : f188_n a0 g1 x1 y1 V Q) : CallV Tryz.prog 188 ⟨[(.slice a0.a a0.n a0.c), (.func (.func g1) ⟨x1⟩ ⟨y1⟩)]⟩ V Q :=
  XF_sound (wr := false) Tryz.checked.mixed (enters_of (fn := Tryz.f188) (by kernel_rfl) (by kernel_rfl) (by kernel_rfl)) (fn := Tryz.f188) (by kernel_rfl) (ac := f188_ac)
    (Eq.mp (show f188_n a0 g1 x1 y1 V Q = XF Tryz.prog false Tryz.f188 (f188_ac) [(.slice a0.a a0.n a0.c), (.func (.func g1) ⟨x1⟩ ⟨y1⟩)] V Q from by kernel_rfl) h)
end Go.Proofs.YtgkmcnafkhdlnaaGreat
