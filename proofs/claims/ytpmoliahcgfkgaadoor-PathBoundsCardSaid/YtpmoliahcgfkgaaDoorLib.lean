/- Contracts of the library's functions over views. -/
import Derived.Test.YtpmoliahcgfkgaaDoorShelf
import Derived.Test.YtpmoliahcgfkgaaDoorRep
import Derived.Test.YtpmoliahcgfkgaaDoorPathLaw
namespace Go.Proofs.YtpmoliahcgfkgaaDoor
open Go Go.RowKit
/-- What is asked of the variables: internal/bytealg.MaxLen holds some number. -/
def Glo (V : View) : Prop := ∃ m : Int, V.cell? ⟨0, 0, none⟩ = some (.int .i64 m)
theorem Glo.mono {V V' : View} (h : V.Le V') (g : Glo V) : Glo V' := let ⟨m, hm⟩ := g; ⟨m, h.cell hm⟩
theorem CallV.quiet {P : Program} {f : FuncId} {args : Array Value} {V : View} {r : Value} (he : Enters P f) (h : ∀ w, V.In w → Calls P f args w fun e w' => e = .returned r ∧ w' = w) :
    CallV P f args V fun r' V' => r' = r ∧ V' = V :=
  ⟨he, fun w hw => (h w hw).mono fun e w' ⟨h1, h2⟩ => ⟨r, V, h1, by rw [h2]; exact hw, by rw [h2]; exact Fr.refl V w, rfl, rfl⟩⟩
theorem CallV.below {P : Program} {f : FuncId} {args : Array Value} {V : View} {r : Value} (he : Enters P f) (h : ∀ w, V.In w → Calls P f args w fun e w' => e = .returned r ∧ Below w.heap.size w w') :
    CallV P f args V fun r' V' => r' = r ∧ V' = V :=
  ⟨he, fun w hw => (h w hw).mono fun e w' ⟨h1, h2⟩ => ⟨r, V, h1,
    ⟨Nat.le_trans hw.size h2.size, fun i o ho => by
      have := hw.see i o ho
      rw [h2.block i (lt_of_some this)]; exact this, by
      have := hw.out
      unfold World.outer at *
      rw [h2.os, h2.tape, h2.output]; exact this⟩, ⟨h2.size, fun i hi hn => ⟨hn, h2.block i hi⟩⟩, rfl, rfl⟩⟩
theorem cutPrefix_ok {s : ByteArray} {V : View} : CallV Tryd.prog 12 ⟨[.string s, .string (ba [47])]⟩ V fun r V' =>
    r = .tuple ⟨[.string (ba (Lib.trimPrefix (bl s) [47])), .bool (Lib.hasPrefix (bl s) [47])]⟩ ∧ V' = V :=
  CallV.quiet (enters_of (fn := Tryd.f12) (by kernel_rfl) (by kernel_rfl) (by kernel_rfl)) fun w _ => Tryd.strings_CutPrefix s (ba [47]) w
theorem strSplit_ok {s : ByteArray} {V : View} (hs : s.size < 4294967281) (hg : Glo V) : CallV Tryd.prog 13 ⟨[.string s, .string (ba [47])]⟩ V fun r V' =>
    ∃ x : Sl, r = .slice x.a x.n x.c ∧ V.Le V' ∧ SlR V' x ((splitS (bl s)).map ba) := by
  refine ⟨enters_of (fn := Tryd.f13) (by kernel_rfl) (by kernel_rfl) (by kernel_rfl), fun w hw => ?_⟩
  obtain ⟨m, hm⟩ := hg
  refine (Tryd.strings_Split s (ba [47]) m w hs (hw.cell hm) (Nat.le_refl _)).mono fun e w' ⟨h1, h2⟩ => ?_
  have hlen := Lib.splitB_all (ba [47]) (Nat.le_refl _) 0 _ s rfl
  rw [splitB_eq] at hlen h2
  have hle := Lib.countB_le (ba [47]) (Nat.le_refl _) s.size s (Nat.le_refl _)
  have hfr : V.see w.heap.size = none := View.see_none_of_ge hw.size
  have hnew : (View.put V w.heap.size (.cells (((splitS (bl s)).map ba).map Value.string).toArray 9)).In w' := by
    rw [h2]
    refine ⟨?_, fun i o ho => ?_, hw.out⟩
    · show max V.size (w.heap.size + 1) ≤ (w.heap.push _).size
      have := hw.size; simp; omega
    · by_cases e : i = w.heap.size
      · subst e
        rw [View.see_put_same] at ho; cases ho
        show (w.heap.push _)[w.heap.size]? = _
        simp
      · rw [View.see_put_ne V _ e] at ho
        have := hw.see i o ho
        show (w.heap.push _)[i]? = _
        rw [Array.getElem?_push, if_neg e]; exact this
  refine ⟨_, _, h1, hnew, ⟨by rw [h2]; show w.heap.size ≤ (w.heap.push _).size; simp, fun i hi hn => ⟨by rw [View.see_put_ne V _ (Nat.ne_of_lt hi)]; exact hn, by
    rw [h2]; show (w.heap.push _)[i]? = _; rw [Array.getElem?_push, if_neg (Nat.ne_of_lt hi)]⟩⟩, ⟨_, _, _⟩, rfl, View.put_le hfr, ?_⟩
  refine ⟨hlen.symm, Nat.le_refl _, by show Lib.countB s (ba [47]) + 1 ≤ _; omega, fun i hi => ⟨_, [.string ((splitS (bl s)).map ba)[i]], rfl, ?_, rfl, ?_⟩⟩
  · rw [addr0_add]
    refine cellsAt_of_see (cs := ((splitS (bl s)).map ba).map Value.string) (View.see_put_same _ _ _) fun j v hj => ?_
    cases j with
    | succ j => simp at hj
    | zero =>
      simp only [List.getElem?_cons_zero, Option.some.injEq] at hj
      subst hj
      show (((splitS (bl s)).map ba).map Value.string)[0 + i * 1 + 0]? = _
      rw [Nat.zero_add, Nat.mul_one, Nat.add_zero, List.getElem?_map, List.getElem?_eq_getElem hi]; rfl
  · have : ∀ t : List UInt8, ∀ x ∈ splitS t, x.length ≤ t.length := by
      intro t
      induction t with
      | nil => intro x hx; simp [splitS] at hx; simp [hx]
      | cons c t ih =>
        intro x hx
        unfold splitS at hx
        split at hx
        · rcases List.mem_cons.1 hx with rfl | hx
          · simp
          · have := ih x hx; simp; omega
        · split at hx
          · rename_i h y he
            rcases List.mem_cons.1 hx with rfl | hx
            · have := ih h (by rw [he]; simp); simp; omega
            · have := ih x (by rw [he]; simp [hx]); simp; omega
          · rename_i he; exact absurd he (splitS_ne t)
    have hm := this (bl s) _ (List.getElem_mem (by simpa using hi) : (splitS (bl s))[i]'(by simpa using hi) ∈ _)
    simp only [List.getElem_map, ba_size]
    rw [bl_len] at hm
    omega
theorem strJoin_ok {x : Sl} {l : List ByteArray} {V : View} (h : SlR V x l) (hl : (Lib.join (l.map bl) [47]).length ≤ 140737488355328) : CallV Tryd.prog 16 ⟨[.slice x.a x.n x.c, .string (ba [47])]⟩ V fun r V' =>
    r = .string (ba (Lib.join (l.map bl) [47])) ∧ V' = V := by
  have he : Enters Tryd.prog 16 := enters_of (fn := Tryd.f16) (by kernel_rfl) (by kernel_rfl) (by kernel_rfl)
  cases l with
  | nil =>
    have h0 : x.n = 0 := h.n
    rw [h0]
    exact CallV.quiet he fun w _ => Tryd.strings_Join_none x.a x.c (ba [47]) w
  | cons y l =>
    obtain ⟨ad, vs, ha, hc, hr⟩ := h.get 0 (by simp)
    obtain ⟨rfl, _⟩ := hr
    rw [Nat.zero_mul, Addr.add_zero, cellsAt_one] at hc
    obtain ⟨b, off, sp⟩ := ad
    have hsp : sp = none := by
      unfold View.cell? at hc
      split at hc
      · split at hc
        · cases hc
        · rename_i hsp; simpa using hsp
      · cases hc
    subst hsp
    have hb : ∀ w, V.In w → b < w.heap.size := fun w hw => by
      unfold View.cell? at hc
      split at hc
      · rename_i hs
        exact Nat.lt_of_lt_of_le (V.lt _ _ hs) hw.size
      · cases hc
    rw [ha, h.n]
    refine CallV.below he fun w hw => Tryd.strings_Join b off x.c (y :: l) (ba [47]) w (fun j z hj => ?_) (hb w hw) (by rw [← h.n]; exact h.lim) (by rw [← h.n]; exact h.c) hl
    have hj' := (List.getElem?_eq_some_iff.1 hj)
    obtain ⟨ad, vs, ha', hc', hr'⟩ := h.get j hj'.1
    rw [ha] at ha'; cases ha'
    obtain ⟨rfl, _⟩ := hr'
    rw [cellsAt_one, addr0_add, hj'.2] at hc'
    have e1 : Rep.sz ByteArray = 1 := rfl
    rw [e1, Nat.mul_one] at hc'
    exact hw.cell hc'
end Go.Proofs.YtpmoliahcgfkgaaDoor
