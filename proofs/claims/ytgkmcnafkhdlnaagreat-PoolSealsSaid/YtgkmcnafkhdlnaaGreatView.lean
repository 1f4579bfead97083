/- Views: a past picture of the heap, what holds in every world above it; contracts over views. -/
import Derived.OrdersHeld
import Derived.Below
import Derived.KernelRfl
namespace Go.Proofs.YtgkmcnafkhdlnaaGreat
open Go Go.RowKit

/-- A picture of the heap: how many blocks there were at least, and what is seen of them. -/
structure View where
  size : Nat
  see : Nat → Option Obj
  out : Os × (Nat → Question → Nat) × Array (Nat × ByteArray)
  lt : ∀ i o, see i = some o → i < size

def World.outer (w : World) : Os × (Nat → Question → Nat) × Array (Nat × ByteArray) := (w.os, w.tape, w.output)

def World.all4 (w : World) : (Os × (Nat → Question → Nat) × Array (Nat × ByteArray)) × Nat := (World.outer w, w.drawn)
theorem World.all4_outer {w w' : World} (h : World.all4 w' = World.all4 w) : World.outer w' = World.outer w := congrArg Prod.fst h
theorem World.all4_drawn {w w' : World} (h : World.all4 w' = World.all4 w) : w.drawn ≤ w'.drawn := Nat.le_of_eq (congrArg Prod.snd h).symm
/-- What V sees is in w. -/
structure View.In (V : View) (w : World) : Prop where
  size : V.size ≤ w.heap.size
  see : ∀ i o, V.see i = some o → w.heap[i]? = some o
  out : World.outer w = V.out

/-- Whatever V sees V' sees, the same. -/
structure View.Le (V V' : View) : Prop where
  size : V.size ≤ V'.size
  see : ∀ i o, V.see i = some o → V'.see i = some o
  out : V'.out = V.out

theorem View.Le.refl (V : View) : V.Le V := ⟨Nat.le_refl _, fun _ _ h => h, rfl⟩
theorem View.Le.trans {A B C : View} (h : A.Le B) (k : B.Le C) : A.Le C :=
  ⟨Nat.le_trans h.size k.size, fun i o x => k.see i o (h.see i o x), k.out.trans h.out⟩
theorem View.Le.In {A B : View} {w : World} (h : A.Le B) (k : B.In w) : A.In w :=
  ⟨Nat.le_trans h.size k.size, fun i o x => k.see i o (h.see i o x), k.out.trans h.out⟩

/-- Are the draws kept count of too? -/
class DrK where
  on : Prop
instance (priority := low) DrK.no : DrK := ⟨False⟩
/-- What V did not see of w is untouched in w', and V' does not see it. -/
structure Fr [DrK] (V : View) (w : World) (V' : View) (w' : World) : Prop where
  size : w.heap.size ≤ w'.heap.size
  hid : ∀ i, i < w.heap.size → V.see i = none → V'.see i = none ∧ w'.heap[i]? = w.heap[i]?
  drawn : DrK.on → w.drawn ≤ w'.drawn
theorem Fr.refl [DrK] (V : View) (w : World) : Fr V w V w := ⟨Nat.le_refl _, fun _ _ h => ⟨h, rfl⟩, fun _ => Nat.le_refl _⟩
theorem Fr.trans [DrK] {V V1 V2 : View} {w w1 w2 : World} (h : Fr V w V1 w1) (k : Fr V1 w1 V2 w2) : Fr V w V2 w2 :=
  ⟨Nat.le_trans h.size k.size, fun i hi hn =>
    let ⟨a, b⟩ := h.hid i hi hn
    let ⟨c, d⟩ := k.hid i (Nat.lt_of_lt_of_le hi h.size) a
    ⟨c, d.trans b⟩, fun x => Nat.le_trans (h.drawn x) (k.drawn x)⟩

/-- Function f has a body of its own and is entered when it is called. -/
def Enters (P : Program) (f : FuncId) : Prop := ∀ (args : Array Value) (w : World), (callFunc f args).run P w = .ok (.enter f args) w

/-- In every world above V the call returns r, and K r V' holds of a view V' of the world behind it. -/
def CallV [DrK] (P : Program) (f : FuncId) (args : Array Value) (V : View) (K : Value → View → Prop) : Prop :=
  Enters P f ∧ ∀ w, V.In w → Calls P f args w fun e w' => ∃ r V', e = .returned r ∧ V'.In w' ∧ Fr V w V' w' ∧ K r V'

theorem CallV.mono [DrK] {P : Program} {f : FuncId} {args : Array Value} {V : View} {K K' : Value → View → Prop} (h : CallV P f args V K)
    (hk : ∀ r V', K r V' → K' r V') : CallV P f args V K' :=
  ⟨h.1, fun w hw => (h.2 w hw).mono fun _ _ ⟨r, V', he, hi, hf, hr⟩ => ⟨r, V', he, hi, hf, hk r V' hr⟩⟩

/-- A contract at a smaller view serves at a greater one, if it only adds to what is seen. -/
def View.cell? (V : View) (a : Addr) : Option Value :=
  match V.see a.block with
  | some (.cells c _ _) => if a.spot.isSome then none else c[a.off]?
  | _ => none
/-- What V sees is in w, whatever else is. -/
def View.Sees (V : View) (w : World) : Prop := ∀ i o, V.see i = some o → w.heap[i]? = some o
theorem View.Sees.cell {V : View} {w : World} (h : V.Sees w) {a : Addr} {v : Value} (hc : V.cell? a = some v) : w.cell? a = some v := by
  unfold View.cell? at hc
  unfold World.cell?
  cases hs : V.see a.block with
  | none => rw [hs] at hc; cases hc
  | some o => rw [hs] at hc; rw [h _ _ hs]; exact hc
theorem View.In.cell {V : View} {w : World} (h : V.In w) {a : Addr} {v : Value} (hc : V.cell? a = some v) : w.cell? a = some v := by
  unfold View.cell? at hc
  unfold World.cell?
  cases hs : V.see a.block with
  | none => rw [hs] at hc; cases hc
  | some o => rw [hs] at hc; rw [h.see _ _ hs]; exact hc
theorem View.Le.cell {V V' : View} (h : V.Le V') {a : Addr} {v : Value} (hc : V.cell? a = some v) : V'.cell? a = some v := by
  unfold View.cell? at *
  cases hs : V.see a.block with
  | none => rw [hs] at hc; cases hc
  | some o => rw [hs] at hc; rw [h.see _ _ hs]; exact hc

/-- Nothing is seen. -/
def View.nil (V : View) : View := ⟨0, fun _ => none, V.out, fun _ _ h => by cases h⟩
/-- All of a world. -/
def View.all (w : World) : View := ⟨w.heap.size, fun i => w.heap[i]?, World.outer w, fun i o h => by
  rcases Nat.lt_or_ge i w.heap.size with h' | h'
  · exact h'
  · rw [Array.getElem?_eq_none h'] at h; cases h⟩
theorem View.all_in (w : World) : (View.all w).In w := ⟨Nat.le_refl _, fun _ _ h => h, rfl⟩

/-- Block i, of cells, is seen too. -/
def View.put (V : View) (i : Nat) (o : Obj) : View := ⟨max V.size (i + 1), fun j => if j = i then some o else V.see j, V.out, fun j o' h => by
  by_cases hj : j = i
  · omega
  · simp only [hj, if_false] at h; have := V.lt j o' h; omega⟩
/-- Block i is seen no more. -/
def View.hide (V : View) (i : Nat) : View := ⟨V.size, fun j => if j = i then none else V.see j, V.out, fun j o' h => by
  by_cases hj : j = i
  · simp [hj] at h
  · simp only [hj, if_false] at h; exact V.lt j o' h⟩
/-- The same, of at least n blocks. -/
def View.pad (V : View) (n : Nat) : View := ⟨max V.size n, V.see, V.out, fun j o h => by have := V.lt j o h; omega⟩

theorem View.put_le {V : View} {i : Nat} {o : Obj} (h : V.see i = none) : V.Le (V.put i o) :=
  ⟨Nat.le_max_left _ _, fun j o' hj => by
    show (if j = i then some o else V.see j) = some o'
    by_cases e : j = i
    · subst e; rw [h] at hj; cases hj
    · rw [if_neg e]; exact hj, rfl⟩
theorem View.pad_le (V : View) (n : Nat) : V.Le (V.pad n) := ⟨Nat.le_max_left _ _, fun _ _ h => h, rfl⟩
theorem View.hide_le (V : View) (i : Nat) : (V.hide i).Le V :=
  ⟨Nat.le_refl _, fun j o h => by
    by_cases e : j = i
    · simp [View.hide, e] at h
    · simpa [View.hide, e] using h, rfl⟩
@[simp] theorem View.see_put_same (V : View) (i : Nat) (o : Obj) : (V.put i o).see i = some o := by simp [View.put]
theorem View.see_put_ne (V : View) {i j : Nat} (o : Obj) (h : j ≠ i) : (V.put i o).see j = V.see j := by simp [View.put, h]
theorem View.see_none_of_ge {V : View} {i : Nat} (h : V.size ≤ i) : V.see i = none := by
  cases hs : V.see i with
  | none => rfl
  | some o => have := V.lt i o hs; omega

end Go.Proofs.YtgkmcnafkhdlnaaGreat
