/- How data lie in a view; what a call made lies apart from the rest (frames); rows that grow. -/
import Derived.Test.YtpalkdmngckcoaaRules
namespace Go.Proofs.Ytpalkdmngckcoaa
open Go

/-! ### frames -/
/-- A call that needs U alone leaves what V sees beside U as it was. -/
theorem CallV.frame {P : Program} {f : FuncId} {args : Array Value} {U V : View} {K : Value → View → Prop} (hU : U.Le V) (h : CallV P f args U K) :
    CallV P f args V fun r V' => ∃ U', K r U' ∧ U'.Le V' ∧ (∀ i o, U.see i = none → V.see i = some o → V'.see i = some o ∧ U'.see i = none) := by
  refine ⟨h.1, fun w hw => (h.2 w (hU.In hw)).mono fun e w' ⟨r, U', he, hi, hf, hr⟩ => ?_⟩
  have hlt : ∀ i o, V.see i = some o → i < w.heap.size := fun i o ho => Nat.lt_of_lt_of_le (V.lt i o ho) hw.size
  let V' : View := ⟨max U'.size V.size, fun i => match U'.see i with
    | some o => some o
    | none => match U.see i with
      | some _ => none
      | none => V.see i, U'.out, fun i o ho => by
        cases h1 : U'.see i with
        | some o1 => have := U'.lt i o1 h1; omega
        | none =>
          simp only [h1] at ho
          cases h2 : U.see i with
          | some o2 => simp [h2] at ho
          | none => simp only [h2] at ho; have := V.lt i o ho; omega⟩
  refine ⟨r, V', he, ⟨?_, ?_, hi.out⟩, ⟨hf.size, ?_⟩, U', hr, ⟨Nat.le_max_left _ _, ?_, rfl⟩, ?_⟩
  · have h1 := hi.size; have h2 := hw.size; have h3 := hf.size
    show max U'.size V.size ≤ _
    omega
  · intro i o ho
    change (match U'.see i with
      | some o => some o
      | none => match U.see i with
        | some _ => none
        | none => V.see i) = some o at ho
    cases h1 : U'.see i with
    | some o1 => rw [h1] at ho; exact hi.see i o (by rw [h1]; exact ho)
    | none =>
      rw [h1] at ho
      cases h2 : U.see i with
      | some o2 => rw [h2] at ho; cases ho
      | none =>
        rw [h2] at ho
        have hl := hlt i o ho
        rw [(hf.hid i hl h2).2]
        exact hw.see i o ho
  · intro i hl hn
    have h2 : U.see i = none := by
      cases h2 : U.see i with
      | none => rfl
      | some o => rw [hU.see i o h2] at hn; cases hn
    have h3 := hf.hid i hl h2
    refine ⟨?_, h3.2⟩
    show (match U'.see i with
      | some o => some o
      | none => match U.see i with
        | some _ => none
        | none => V.see i) = none
    rw [h3.1, h2]; exact hn
  · intro i o ho
    show (match U'.see i with
      | some o => some o
      | none => match U.see i with
        | some _ => none
        | none => V.see i) = some o
    rw [ho]
  · intro i o h2 ho
    have h3 := hf.hid i (hlt i o ho) h2
    refine ⟨?_, h3.1⟩
    show (match U'.see i with
      | some o => some o
      | none => match U.see i with
        | some _ => none
        | none => V.see i) = some o
    rw [h3.1, h2]; exact ho

/-! ### addresses, cells -/
theorem Addr.add_zero (a : Addr) : a.add 0 = a := by simp [Addr.add]
theorem Addr.add_add (a : Addr) (m n : Nat) : (a.add m).add n = a.add (m + n) := by
  unfold Addr.add
  by_cases h : m = 0 <;> by_cases k : n = 0 <;> simp [h, k] <;> omega
theorem Addr.add_block (a : Addr) (n : Nat) : (a.add n).block = a.block := by unfold Addr.add; split <;> rfl
theorem map_add_zero (a : Option Addr) : Option.map (fun (x : Addr) => Addr.add x 0) a = a := by cases a <;> simp [Addr.add_zero]
theorem cellsAt_mono {V V' : View} (h : V.Le V') {a : Addr} {vs : List Value} (hc : cellsAt V a vs) : cellsAt V' a vs := fun j v hj => h.cell (hc j v hj)
theorem cellsAt_one {V : View} {a : Addr} {v : Value} : cellsAt V a [v] ↔ V.cell? a = some v := by
  constructor
  · intro h; have := h 0 v rfl; rwa [Addr.add_zero] at this
  · intro h j x hj
    cases j with
    | zero => simp at hj; subst hj; rwa [Addr.add_zero]
    | succ j => simp at hj
theorem cellsAt_append {V : View} {a : Addr} {vs us : List Value} : cellsAt V a (vs ++ us) ↔ cellsAt V a vs ∧ cellsAt V (a.add vs.length) us := by
  constructor
  · intro h
    refine ⟨fun j v hj => h j v (by rw [List.getElem?_append_left (List.getElem?_eq_some_iff.1 hj).1]; exact hj), fun j v hj => ?_⟩
    rw [Addr.add_add]
    exact h _ v (by rw [List.getElem?_append_right (by omega)]; simpa using hj)
  · rintro ⟨h1, h2⟩ j v hj
    by_cases hl : j < vs.length
    · rw [List.getElem?_append_left hl] at hj; exact h1 j v hj
    · rw [List.getElem?_append_right (by omega)] at hj
      have := h2 _ v hj
      rw [Addr.add_add] at this
      rwa [show vs.length + (j - vs.length) = j by omega] at this
theorem cell_of_see {V : View} {b : Nat} {cs : List Value} {e : TypeId} {f : Nat × Nat} (h : V.see b = some (.cells ⟨cs⟩ e f)) {i : Nat} {v : Value} (hv : cs[i]? = some v) :
    V.cell? ⟨b, i, none⟩ = some v := by
  unfold View.cell?
  simp [h, hv]
theorem addr0_add (b i n : Nat) : (⟨b, i, none⟩ : Addr).add n = ⟨b, i + n, none⟩ := addr_add b i n
theorem cellsAt_of_see {V : View} {b : Nat} {cs : List Value} {e : TypeId} {f : Nat × Nat} (h : V.see b = some (.cells ⟨cs⟩ e f)) {i : Nat} {vs : List Value}
    (hv : ∀ j v, vs[j]? = some v → cs[i + j]? = some v) : cellsAt V ⟨b, i, none⟩ vs := fun j v hj => by
  rw [addr0_add]; exact cell_of_see h (hv j v hj)

/-! ### data -/
class Rep (α : Type) where
  sz : Nat
  pos : 0 < sz
  rep : View → List Value → α → Prop
  len : ∀ {V vs x}, rep V vs x → vs.length = sz
  one : ∀ {V vs x}, rep V vs x → vs.all Value.oneCell' = true
  mono : ∀ {V V' vs x}, V.Le V' → rep V vs x → rep V' vs x

/-- A row of data: no element is written by anybody as long as V is seen. -/
structure SlR {α : Type} [Rep α] (V : View) (s : Sl) (l : List α) : Prop where
  n : s.n = l.length
  c : s.n ≤ s.c
  lim : s.n ≤ 9223372036854775807
  get : ∀ i (h : i < l.length), ∃ ad vs, s.a = some ad ∧ cellsAt V (ad.add (i * Rep.sz α)) vs ∧ Rep.rep V vs l[i]
theorem SlR.mono {α : Type} [Rep α] {V V' : View} {s : Sl} {l : List α} (hV : V.Le V') (h : SlR V s l) : SlR V' s l :=
  ⟨h.n, h.c, h.lim, fun i hi => let ⟨ad, vs, ha, hc, hr⟩ := h.get i hi; ⟨ad, vs, ha, cellsAt_mono hV hc, Rep.mono hV hr⟩⟩
theorem SlR.nil {α : Type} [Rep α] (V : View) (a : Option Addr) (c : Nat) : SlR (α := α) V ⟨a, 0, c⟩ [] := ⟨rfl, Nat.zero_le _, Nat.zero_le _, fun _ h => absurd h (by simp)⟩

instance : Rep Int where
  sz := 1
  pos := Nat.one_pos
  rep _ vs x := vs = [.int .i64 x] ∧ inI .i64 x
  len h := by rw [h.1]; rfl
  one h := by rw [h.1]; rfl
  mono _ h := h
instance : Rep Bool where
  sz := 1
  pos := Nat.one_pos
  rep _ vs x := vs = [.bool x]
  len h := by rw [h]; rfl
  one h := by rw [h]; rfl
  mono _ h := h
instance : Rep UInt8 where
  sz := 1
  pos := Nat.one_pos
  rep _ vs x := vs = [.int .u8 x.toNat]
  len h := by rw [h]; rfl
  one h := by rw [h]; rfl
  mono _ h := h
instance : Rep ByteArray where
  sz := 1
  pos := Nat.one_pos
  rep _ vs x := vs = [.string x] ∧ x.size ≤ 9223372036854775807
  len h := by rw [h.1]; rfl
  one h := by rw [h.1]; rfl
  mono _ h := h
instance {α : Type} [Rep α] : Rep (List α) where
  sz := 1
  pos := Nat.one_pos
  rep V vs x := ∃ s : Sl, vs = [.slice s.a s.n s.c] ∧ SlR V s x
  len h := by obtain ⟨s, h, _⟩ := h; rw [h]; rfl
  one h := by obtain ⟨s, h, _⟩ := h; rw [h]; rfl
  mono hV h := let ⟨s, h, k⟩ := h; ⟨s, h, k.mono hV⟩

theorem SlR.ld {α : Type} [Rep α] {V : View} {s : Sl} {l : List α} (h : SlR V s l) {x : Int} (h0 : 0 ≤ x) (h1 : x < s.n) :
    ∃ ad vs, ∃ hx : x.toNat < l.length, s.a = some ad ∧ cellsAt V (ad.add (x.toNat * Rep.sz α)) vs ∧ Rep.rep V vs l[x.toNat] := by
  have hx : x.toNat < l.length := by have := h.n; omega
  obtain ⟨ad, vs, h⟩ := h.get x.toNat hx
  exact ⟨ad, vs, hx, h⟩
theorem SlR.int {V : View} {s : Sl} {l : List Int} (h : SlR V s l) {x : Int} (h0 : 0 ≤ x) (h1 : x < s.n) :
    ∃ ad, ∃ hx : x.toNat < l.length, s.a = some ad ∧ V.cell? (ad.add (x.toNat * 1)) = some (.int .i64 l[x.toNat]) ∧ inI .i64 l[x.toNat] := by
  obtain ⟨ad, vs, hx, ha, hc, rfl, hi⟩ := h.ld h0 h1
  exact ⟨ad, hx, ha, cellsAt_one.1 hc, hi⟩
theorem SlR.bool {V : View} {s : Sl} {l : List Bool} (h : SlR V s l) {x : Int} (h0 : 0 ≤ x) (h1 : x < s.n) :
    ∃ ad, ∃ hx : x.toNat < l.length, s.a = some ad ∧ V.cell? (ad.add (x.toNat * 1)) = some (.bool l[x.toNat]) := by
  obtain ⟨ad, vs, hx, ha, hc, rfl⟩ := h.ld h0 h1
  exact ⟨ad, hx, ha, cellsAt_one.1 hc⟩
theorem SlR.u8 {V : View} {s : Sl} {l : List UInt8} (h : SlR V s l) {x : Int} (h0 : 0 ≤ x) (h1 : x < s.n) :
    ∃ ad, ∃ hx : x.toNat < l.length, s.a = some ad ∧ V.cell? (ad.add (x.toNat * 1)) = some (.int .u8 l[x.toNat].toNat) := by
  obtain ⟨ad, vs, hx, ha, hc, rfl⟩ := h.ld h0 h1
  exact ⟨ad, hx, ha, cellsAt_one.1 hc⟩
theorem SlR.str {V : View} {s : Sl} {l : List ByteArray} (h : SlR V s l) {x : Int} (h0 : 0 ≤ x) (h1 : x < s.n) :
    ∃ ad, ∃ hx : x.toNat < l.length, s.a = some ad ∧ V.cell? (ad.add (x.toNat * 1)) = some (.string l[x.toNat]) ∧ l[x.toNat].size ≤ 9223372036854775807 := by
  obtain ⟨ad, vs, hx, ha, hc, rfl, hi⟩ := h.ld h0 h1
  exact ⟨ad, hx, ha, cellsAt_one.1 hc, hi⟩
/-- A part of a row. -/
theorem SlR.sub {α : Type} [Rep α] {V : View} {s : Sl} {l : List α} (h : SlR V s l) {i j : Nat} (hij : i ≤ j) (hj : j ≤ l.length) :
    SlR V ⟨if s.c = i then s.a else s.a.map fun x => x.add (i * Rep.sz α), j - i, s.c - i⟩ ((l.take j).drop i) := by
  have hn := h.n; have hc := h.c
  refine ⟨by simp; omega, by show j - i ≤ s.c - i; omega, by have := h.lim; show j - i ≤ _; omega, fun k hk => ?_⟩
  have hk' : i + k < l.length := by simp at hk; omega
  obtain ⟨ad, vs, ha, hcs, hr⟩ := h.get (i + k) hk'
  have hne : s.c ≠ i := by simp at hk; omega
  refine ⟨ad.add (i * Rep.sz α), vs, by simp [hne, ha], ?_, ?_⟩
  · rw [Addr.add_add, ← Nat.add_mul]; exact hcs
  · simpa using hr
theorem SlR.take {α : Type} [Rep α] {V : View} {s : Sl} {l : List α} (h : SlR V s l) {j : Nat} (hj : j ≤ l.length) : SlR V ⟨s.a, j, s.c⟩ (l.take j) := by
  have := h.sub (Nat.zero_le j) hj
  simpa [map_add_zero] using this

/-! ### rows that this call made and that grow -/
def View.minus (V : View) (x : Sl) : View := match x.a with
  | none => V
  | some a => V.hide a.block
theorem View.minus_le (V : View) (x : Sl) : (V.minus x).Le V := by
  unfold View.minus; split
  · exact View.Le.refl V
  · exact View.hide_le V _
/-- The row x is the call's own; its cells so far are cs (elements of sz cells). -/
structure Buf (V : View) (x : Sl) (e : TypeId) (sz : Nat) (cs : List Value) : Prop where
  len : cs.length = x.n * sz
  le : x.n ≤ x.c
  lim : x.n ≤ 140737488355328
  own : (x.a = none ∧ x.c = 0) ∨ ∃ r all, x.a = some ⟨r, 0, none⟩ ∧ V.see r = some (.cells ⟨all⟩ e (0, 0)) ∧ all.length = x.c * sz ∧ all.take (x.n * sz) = cs
theorem Buf.nil (V : View) (e : TypeId) (sz : Nat) : Buf V ⟨none, 0, 0⟩ e sz [] := ⟨by simp, Nat.le_refl _, Nat.zero_le _, .inl ⟨rfl, rfl⟩⟩
theorem Buf.mono {V V' : View} {x : Sl} {e : TypeId} {sz : Nat} {cs : List Value} (h : Buf V x e sz cs) (hV : V.Le V') : Buf V' x e sz cs :=
  ⟨h.len, h.le, h.lim, h.own.imp id fun ⟨r, all, a, b, c⟩ => ⟨r, all, a, hV.see _ _ b, c⟩⟩
theorem minus_mono {V V' : View} (h : V.Le V') (x : Sl) : (V.minus x).Le (V'.minus x) := by
  unfold View.minus; split
  · exact h
  · refine ⟨h.size, fun i o ho => ?_, h.out⟩
    unfold View.hide at *
    simp only at *
    split at ho
    · cases ho
    · rename_i hne; rw [if_neg hne]; exact h.see i o ho
theorem Buf.row {V : View} {x : Sl} {e : TypeId} {sz : Nat} {cs : List Value} (h : Buf V x e sz cs) : rowAt V x.a (x.n * sz) cs := by
  rcases h.own with ⟨ha, hc⟩ | ⟨r, all, ha, hs, hl, ht⟩
  · have h0 : x.n = 0 := by have := h.le; omega
    rw [ha]
    show cs = []
    have := h.len
    rw [h0] at this
    simpa using this
  · rw [ha]
    refine ⟨h.len, fun j v hj => ?_⟩
    rw [addr0_add]
    refine cell_of_see hs ?_
    rw [← ht] at hj
    rw [List.getElem?_take] at hj
    split at hj
    · simpa using hj
    · cases hj
theorem putL_eq : ∀ (vs cs : List Value) (off : Nat), off + vs.length ≤ cs.length → putL cs off vs = cs.take off ++ vs ++ cs.drop (off + vs.length)
  | [], cs, off, _ => by simp [putL]
  | v :: vs, cs, off, h => by
    simp only [List.length_cons] at h
    rw [putL, putL_eq vs _ _ (by simp; omega)]
    rw [List.drop_set_of_lt (by omega), List.take_add_one, List.getElem?_set_self (by omega), List.take_set, List.set_eq_of_length_le (by simp; omega)]
    simp [Nat.add_assoc, Nat.add_comm 1]
theorem setObj_cells (e : TypeId) (f : Nat × Nat) (vs cs : List Value) (off : Nat) : setObj (.cells ⟨cs⟩ e f) off vs = .cells ⟨putL cs off vs⟩ e f := putL_setObj e f vs cs off
theorem sets_see {V : View} {r off : Nat} {cs vs : List Value} {e : TypeId} {f : Nat × Nat} (h : V.see r = some (.cells ⟨cs⟩ e f)) : V.sets ⟨r, off, none⟩ vs = V.put r (.cells ⟨putL cs off vs⟩ e f) := by
  unfold View.sets
  simp only [h, setObj_cells]
theorem canSet_of {V : View} {r off k : Nat} {cs : List Value} {e : TypeId} (h : V.see r = some (.cells ⟨cs⟩ e (0, 0))) (hk : off + k ≤ cs.length) : canSet V ⟨r, off, none⟩ k :=
  ⟨rfl, ⟨cs⟩, e, (0, 0), h, by simpa using hk, fun j _ hf => by simp at hf⟩
theorem hide_le_put {V : View} (r : Nat) (o : Obj) : (V.hide r).Le (V.put r o) :=
  ⟨Nat.le_max_left _ _, fun i o' h => by
    unfold View.hide at h
    simp only at h
    split at h
    · cases h
    · rename_i hne; rw [View.see_put_ne V o hne]; exact h, rfl⟩
theorem hide_le_put_hide {V : View} (r : Nat) (o : Obj) : (V.hide r).Le ((V.put r o).hide r) :=
  ⟨Nat.le_max_left _ _, fun i o' h => by
    unfold View.hide at *
    simp only at *
    split at h
    · cases h
    · rename_i hne; rw [if_neg hne, View.see_put_ne V o hne]; exact h, rfl⟩
/-- What is appended stands behind; all else is as it was. -/
theorem apV_buf {V : View} {e : TypeId} {sz bytes : Nat} {zero : List Value} {x : Sl} {y : Value} {C : Sl → View → Prop} {cs src : List Value} {m : Nat} (hz : zero.length = sz)
    (hb : Buf V x e sz cs) (hs : srcAt V sz zero y m src) (hl : src.length = m * sz) (h1 : src.all Value.oneCell' = true) (hm : (x.n + m) * bytes ≤ 140737488355328) (hm2 : x.n + m ≤ 140737488355328)
    (hC : ∀ s V', Buf V' s e sz (cs ++ src) → s.n = x.n + m → (V.minus x).Le (V'.minus s) → C s V') : apV V e sz bytes zero x y C := by
  refine ⟨cs, src, m, hb.row, hs, h1, hm, hm2, fun hle => ?_, fun hlt r cap hr hcap => ?_⟩
  · rcases hb.own with ⟨ha, hc⟩ | ⟨r, all, ha, hsee, hal, htk⟩
    · rw [ha]
      have hn0 : x.n = 0 := by have := hb.le; omega
      have hm0 : m = 0 := by omega
      have e1 : src = [] := by rw [← List.length_eq_zero_iff, hl, hm0]; simp
      have e2 : cs = [] := by rw [← List.length_eq_zero_iff, hb.len, hn0]; simp
      refine hC _ _ ⟨by simp [e1, e2, hn0, hm0], by show x.n + m ≤ x.c; omega, hm2, .inl ⟨rfl, hc⟩⟩ rfl ?_
      unfold View.minus; rw [ha]; exact View.Le.refl V
    · rw [ha]
      have hfit : x.n * sz + src.length ≤ all.length := by rw [hl, hal, ← Nat.add_mul]; exact Nat.mul_le_mul_right _ hle
      have e0 : (⟨r, 0, none⟩ : Addr).add (x.n * sz) = ⟨r, x.n * sz, none⟩ := by rw [addr0_add]; simp
      show canSet V ((⟨r, 0, none⟩ : Addr).add (x.n * sz)) src.length ∧ C ⟨some ⟨r, 0, none⟩, x.n + m, x.c⟩ (V.sets ((⟨r, 0, none⟩ : Addr).add (x.n * sz)) src)
      rw [e0]
      refine ⟨canSet_of hsee hfit, ?_⟩
      rw [sets_see hsee, putL_eq _ _ _ hfit]
      refine hC _ _ ⟨by simp [hb.len, hl, Nat.add_mul], by show x.n + m ≤ x.c; omega, hm2, .inr ⟨r, _, rfl, View.see_put_same _ _ _, ?_, ?_⟩⟩ rfl ?_
      · simp only [List.length_append, List.length_take, List.length_drop]; omega
      · rw [htk]
        rw [List.take_append_of_le_length (by simp [hb.len, hl, Nat.add_mul])]
        rw [List.take_of_length_le (by simp [hb.len, hl, Nat.add_mul])]
      · unfold View.minus
        rw [ha]
        exact hide_le_put_hide r _
  · have hfr : V.see r = none := View.see_none_of_ge hr
    refine hC _ _ ⟨by simp [hb.len, hl, Nat.add_mul], hcap, hm2, .inr ⟨r, _, rfl, View.see_put_same _ _ _, ?_, ?_⟩⟩ rfl ?_
    · simp [hb.len, hl, hz, List.length_flatten, Nat.sub_mul, Nat.add_mul]
      have := Nat.mul_le_mul_right sz hcap
      rw [Nat.add_mul] at this
      omega
    · rw [List.take_append_of_le_length (by simp [hb.len, hl, Nat.add_mul])]
      rw [List.take_of_length_le (by simp [hb.len, hl, Nat.add_mul])]
    · have h2 : V.Le ((V.put r (.cells (cs ++ src ++ (List.replicate (cap - (x.n + m)) zero).flatten).toArray e (0, 0))).hide r) :=
        ⟨Nat.le_max_left _ _, fun i o ho => by
          have hne : i ≠ r := fun h => by rw [h, hfr] at ho; cases ho
          show (if i = r then none else View.see (V.put r _) i) = some o
          rw [if_neg hne, View.see_put_ne V _ hne]; exact ho, rfl⟩
      exact (View.minus_le V x).trans h2
/-- Cells of a row of data. -/
def repL {α : Type} [Rep α] (W : View) : List Value → List α → Prop
  | cs, [] => cs = []
  | cs, x :: l => ∃ vs us, cs = vs ++ us ∧ Rep.rep W vs x ∧ repL W us l
theorem repL.mono {α : Type} [Rep α] {W W' : View} (h : W.Le W') : ∀ {cs : List Value} {l : List α}, repL W cs l → repL W' cs l
  | _, [], hr => hr
  | _, _ :: _, ⟨vs, us, e, h1, h2⟩ => ⟨vs, us, e, Rep.mono h h1, repL.mono h h2⟩
theorem repL.snoc {α : Type} [Rep α] {W : View} : ∀ {cs : List Value} {l : List α} {vs : List Value} {x : α}, repL W cs l → Rep.rep W vs x → repL W (cs ++ vs) (l ++ [x])
  | _, [], vs, x, h, hx => by cases h; exact ⟨vs, [], by simp, hx, rfl⟩
  | _, y :: l, vs, x, ⟨ws, us, e, h1, h2⟩, hx => ⟨ws, us ++ vs, by rw [e, List.append_assoc], h1, repL.snoc h2 hx⟩
theorem repL.append {α : Type} [Rep α] {W : View} : ∀ {cs ds : List Value} {l m : List α}, repL W cs l → repL W ds m → repL W (cs ++ ds) (l ++ m)
  | _, _, [], m, h, hm => by cases h; simpa using hm
  | _, _, y :: l, m, ⟨ws, us, e, h1, h2⟩, hx => ⟨ws, us ++ _, by rw [e, List.append_assoc], h1, repL.append h2 hx⟩
theorem repL.len {α : Type} [Rep α] {W : View} : ∀ {cs : List Value} {l : List α}, repL W cs l → cs.length = l.length * Rep.sz α
  | _, [], h => by cases h; simp
  | _, _ :: _, ⟨vs, us, e, h1, h2⟩ => by rw [e, List.length_append, Rep.len h1, repL.len h2, List.length_cons, Nat.add_mul]; omega
theorem repL.one {α : Type} [Rep α] {W : View} : ∀ {cs : List Value} {l : List α}, repL W cs l → cs.all Value.oneCell' = true
  | _, [], h => by cases h; rfl
  | _, _ :: _, ⟨vs, us, e, h1, h2⟩ => by rw [e, List.all_append, Rep.one h1, repL.one h2]; rfl
theorem repL.get {α : Type} [Rep α] {W : View} : ∀ {cs : List Value} {l : List α}, repL W cs l → ∀ i (h : i < l.length), ∃ vs, Rep.rep W vs l[i] ∧ ∀ j v, vs[j]? = some v → cs[i * Rep.sz α + j]? = some v
  | _, [], _, i, h => absurd h (by simp)
  | _, x :: l, ⟨vs, us, e, h1, h2⟩, 0, _ => ⟨vs, h1, fun j v hj => by
      rw [e, Nat.zero_mul, Nat.zero_add, List.getElem?_append_left (List.getElem?_eq_some_iff.1 hj).1]; exact hj⟩
  | _, x :: l, ⟨vs, us, e, h1, h2⟩, i + 1, h => by
    obtain ⟨ws, hr, hg⟩ := repL.get h2 i (by simpa using h)
    refine ⟨ws, hr, fun j v hj => ?_⟩
    rw [e, List.getElem?_append_right (by rw [Rep.len h1, Nat.add_mul]; omega), Rep.len h1, Nat.add_mul]
    rw [show i * Rep.sz α + 1 * Rep.sz α + j - Rep.sz α = i * Rep.sz α + j by omega]
    exact hg j v hj
theorem Buf.slR {α : Type} [Rep α] {W V : View} {x : Sl} {e : TypeId} {cs : List Value} {l : List α} (h : Buf V x e (Rep.sz α) cs) (hr : repL W cs l) (hW : W.Le V) : SlR V x l := by
  have hn : x.n = l.length := Nat.eq_of_mul_eq_mul_right (Rep.pos (α := α)) (h.len.symm.trans hr.len)
  refine ⟨hn, h.le, Nat.le_trans h.lim (by decide), fun i hi => ?_⟩
  obtain ⟨vs, hv, hg⟩ := hr.get i hi
  rcases h.own with ⟨ha, hc⟩ | ⟨r, all, ha, hs, hl, ht⟩
  · have := h.le; omega
  · refine ⟨_, vs, ha, ?_, Rep.mono hW hv⟩
    rw [addr0_add]
    refine cellsAt_of_see hs fun j v hj => ?_
    have := hg j v hj
    rw [← ht, List.getElem?_take] at this
    split at this
    · simpa using this
    · cases this
/-- The cells of a row of data, read. -/
theorem SlR.row {α : Type} [Rep α] {V : View} {s : Sl} {l : List α} (h : SlR V s l) : ∃ cs, rowAt V s.a (s.n * Rep.sz α) cs ∧ repL V cs l := by
  have hn := h.n; have hg := h.get
  suffices key : ∀ (k : Nat), k ≤ l.length → ∃ cs, repL V cs (l.take k) ∧ (∀ ad, s.a = some ad → cellsAt V ad cs) from by
    obtain ⟨cs, h1, h2⟩ := key l.length (Nat.le_refl _)
    rw [List.take_length] at h1
    refine ⟨cs, ?_, h1⟩
    cases ha : s.a with
    | none =>
      show cs = []
      cases l with
      | nil => exact h1
      | cons x l => obtain ⟨ad, _, h', _⟩ := hg 0 (by simp); rw [ha] at h'; cases h'
    | some ad => exact ⟨by rw [h1.len, hn], h2 ad ha⟩
  intro k
  induction k with
  | zero => intro _; exact ⟨[], by simp [repL], fun ad _ j v hj => by simp at hj⟩
  | succ k ih =>
    intro hk
    obtain ⟨cs, h1, h2⟩ := ih (by omega)
    obtain ⟨ad, vs, ha, hc, hr⟩ := hg k (by omega)
    refine ⟨cs ++ vs, ?_, fun ad' ha' => ?_⟩
    · rw [List.take_add_one, List.getElem?_eq_getElem (by omega)]
      exact h1.snoc hr
    · rw [ha] at ha'; cases ha'
      refine cellsAt_append.2 ⟨h2 ad ha, ?_⟩
      rw [h1.len, List.length_take, Nat.min_eq_left (by omega)]
      exact hc
end Go.Proofs.Ytpalkdmngckcoaa
