/- The executor of YtgkmcnafkhdlnaaGreatCore is right: operations that turn the world. -/
import Derived.Test.YtgkmcnafkhdlnaaGreatSound3
import Derived.Laws.Append
set_option linter.unusedSimpArgs false
set_option linter.unusedVariables false
namespace Go.Proofs.YtgkmcnafkhdlnaaGreat
open Go Go.RowKit
section
variable {P : Program} {wr : Bool} {VS : Option View} {bx : List Box} {ρ : Operand → Option RV} {η : Operand → Value} {V0 V : View} {w0 w : World} {C : Option RV → List Box → View → Prop} {o : Oper}

/-- Boxes turn only with their number. -/
def BxRel (bx bx' : List Box) : Prop := ∀ (i : Nat) (b : Box), bx[i]? = some b → ∃ b' : Box, bx'[i]? = some b' ∧ b.ver ≤ b'.ver ∧ (b'.blk = b.blk ∧ b'.ty = b.ty) ∧ (b.ver = b'.ver → b = b')
theorem BxRel.refl (bx : List Box) : BxRel bx bx := fun i b h => ⟨b, h, Nat.le_refl _, ⟨rfl, rfl⟩, fun _ => rfl⟩
theorem BxRel.trans {a b c : List Box} (h : BxRel a b) (k : BxRel b c) : BxRel a c := fun i x hx => by
  obtain ⟨y, hy, h1, h2, h3⟩ := h i x hx
  obtain ⟨z, hz, k1, k2, k3⟩ := k i y hy
  refine ⟨z, hz, Nat.le_trans h1 k1, ⟨k2.1.trans h2.1, k2.2.trans h2.2⟩, fun e => ?_⟩
  have e1 : x.ver = y.ver := by omega
  exact (h3 e1).trans (k3 (by omega))
/-- What an operation leaves. -/
def Leaves [DrK] (V0 : View) (w0 : World) (bx : List Box) (C : Option RV → List Box → View → Prop) (v : Value) (w' : World) : Prop :=
  ∃ r bx' V', (∀ rv, r = some rv → rv.val bx' = v) ∧ Inv V0 w0 V' w' bx' ∧ BxRel bx bx' ∧ C r bx' V'
def OpOk [DrK] (P : Program) (V0 : View) (w0 : World) (η : Operand → Value) (o : Oper) (bx : List Box) (w : World) (C : Option RV → List Box → View → Prop) : Prop :=
  match (execOp η o).run P w with
  | .ok (.value v) w' => Leaves V0 w0 bx C v w'
  | .ok .skip w' => Leaves V0 w0 bx C undef w'
  | .ok (.enter f args) w' => Calls P f args w' fun e w'' => ∃ v, e = .returned v ∧ Leaves V0 w0 bx C v w''
  | _ => False
theorem OpOk.value [DrK] {v : Value} {w' : World} (h : (execOp η o).run P w = .ok (.value v) w') (hl : Leaves V0 w0 bx C v w') : OpOk P V0 w0 η o bx w C := by
  unfold OpOk; rw [h]; exact hl
theorem OpOk.skip [DrK] {w' : World} (h : (execOp η o).run P w = .ok .skip w') (hl : Leaves V0 w0 bx C undef w') : OpOk P V0 w0 η o bx w C := by
  unfold OpOk; rw [h]; exact hl

/-- The world with one block more. -/
def more (w : World) (o : Obj) : World := { w with heap := w.heap.push o }
theorem more_old (w : World) (o : Obj) {i : Nat} (h : i < w.heap.size) : (more w o).heap[i]? = w.heap[i]? := by
  simp only [more, Array.getElem?_push, if_neg (Nat.ne_of_lt h)]
theorem more_new (w : World) (o : Obj) : (more w o).heap[w.heap.size]? = some o := by
  show (w.heap.push o)[w.heap.size]? = some o
  simp
theorem more_size (w : World) (o : Obj) : (more w o).heap.size = w.heap.size + 1 := by simp [more]
theorem lt_of_some {w : World} {i : Nat} {o : Obj} (h : w.heap[i]? = some o) : i < w.heap.size := (Array.getElem?_eq_some_iff.1 h).1
theorem In.more [DrK] {V : View} {w : World} (h : V.In w) (o : Obj) : V.In (more w o) :=
  ⟨by rw [more_size]; have := h.size; omega, fun i o' hi => by rw [more_old w o (lt_of_some (h.see i o' hi))]; exact h.see i o' hi, h.out⟩
theorem Inv.more [DrK] (h : Inv V0 w0 V w bx) (o : Obj) : Inv V0 w0 V (more w o) bx where
  isIn := In.more h.isIn o
  fr := h.fr.trans ⟨by rw [more_size]; omega, fun i hi hn => ⟨hn, more_old w o hi⟩, fun _ => Nat.le_refl _⟩
  boxes := ⟨fun i b hb => by have := h.boxes.lo i b hb; rw [more_size]; omega, fun i b cs hb hc => by
    have h1 := h.boxes.shut i b cs hb hc
    exact ⟨h1.1, by rw [more_old w o (lt_of_some h1.2)]; exact h1.2⟩, h.boxes.ne⟩
/-- A new block that is seen. -/
theorem Inv.newB [DrK] (h : Inv V0 w0 V w bx) (o : Obj) : Inv V0 w0 (V.put w.heap.size o) (Go.Proofs.YtgkmcnafkhdlnaaGreat.more w o) bx where
  isIn := ⟨by rw [more_size]; have := h.isIn.size; simp only [View.put]; omega, fun i o' hi => by
    by_cases e : i = w.heap.size
    · subst e; simp only [View.put, if_true] at hi; cases hi; exact more_new w o
    · simp only [View.put, if_neg e] at hi; rw [more_old w o (lt_of_some (h.isIn.see i o' hi))]; exact h.isIn.see i o' hi, h.isIn.out⟩
  fr := h.fr.trans ⟨by rw [more_size]; omega, fun i hi hn => ⟨by simp only [View.put, if_neg (Nat.ne_of_lt hi)]; exact hn, more_old w o hi⟩, fun _ => Nat.le_refl _⟩
  boxes := ⟨fun i b hb => by have := h.boxes.lo i b hb; rw [more_size]; omega, fun i b cs hb hc => by
    have h1 := h.boxes.shut i b cs hb hc
    have hl := lt_of_some h1.2
    exact ⟨by simp only [View.put, if_neg (Nat.ne_of_lt hl)]; exact h1.1, by rw [more_old w o hl]; exact h1.2⟩, h.boxes.ne⟩
/-- A new block that is a box. -/
theorem Inv.newBox [DrK] (h : Inv V0 w0 V w bx) (t : TypeId) (cs : List Value) : Inv V0 w0 V (Go.Proofs.YtgkmcnafkhdlnaaGreat.more w (.cells ⟨cs⟩ t)) (bx ++ [⟨0, w.heap.size, t, some cs⟩]) where
  isIn := (h.more _).isIn
  fr := (h.more _).fr
  boxes := by
    have hm := (h.more (.cells ⟨cs⟩ t)).boxes
    have hlen : ∀ (i : Nat) (b : Box), (bx ++ [(⟨0, w.heap.size, t, some cs⟩ : Box)])[i]? = some b → bx[i]? = some b ∨ (i = bx.length ∧ b = ⟨0, w.heap.size, t, some cs⟩) := fun i b hb => by
      rw [List.getElem?_append] at hb
      split at hb
      · exact .inl hb
      · rename_i hge
        right
        cases hk : i - bx.length with
        | zero => rw [hk] at hb; simp at hb; exact ⟨by omega, hb.symm⟩
        | succ n => rw [hk] at hb; simp at hb
    refine ⟨fun i b hb => ?_, fun i b cs' hb hc => ?_, fun i j b c hb hc e => ?_⟩
    · rcases hlen i b hb with hb | ⟨_, rfl⟩
      · exact hm.lo i b hb
      · refine ⟨h.fr.size, by rw [more_size]; exact Nat.lt_succ_self _⟩
    · rcases hlen i b hb with hb | ⟨_, rfl⟩
      · exact hm.shut i b cs' hb hc
      · cases hc
        exact ⟨View.see_none_of_ge h.isIn.size, more_new _ _⟩
    · rcases hlen i b hb with hb | ⟨hi, rfl⟩ <;> rcases hlen j c hc with hc | ⟨hj, rfl⟩
      · exact hm.ne i j b c hb hc e
      · have := (h.boxes.lo i b hb).2
        simp only at e
        omega
      · have := (h.boxes.lo j c hc).2
        simp only at e
        omega
      · omega
theorem BxRel.push (bx : List Box) (b : Box) : BxRel bx (bx ++ [b]) := fun i c hc =>
  ⟨c, by rw [List.getElem?_append_left (List.getElem?_eq_some_iff.1 hc).1]; exact hc, Nat.le_refl _, ⟨rfl, rfl⟩, fun _ => rfl⟩
theorem lv_alloc [DrK] {t : TypeId} (ho : o.op = .alloc t) (hi : Inv V0 w0 V w bx) (h : opX P wr VS bx (.alloc t) o.type ρ V C) : OpOk P V0 w0 η o bx w C := by
  simp only [opX] at h
  split at h
  · rename_i cs a b hinfo
    obtain ⟨i, zv, hi', hz, hzc, _, _⟩ := infoX_spec hinfo
    refine .value (v := .pointer (some ⟨w.heap.size, 0, none⟩)) (w' := more w (.cells ⟨cs⟩ t)) ?_ ?_
    · simp [execOp, ho, Instr.alloc, zeroValue_run hi' hz, newVar, newRow, hzc, more]
    · refine ⟨_, _, V, fun rv e => ?_, hi.newBox t cs, BxRel.push _ _, h w.heap.size⟩
      cases e
      simp [RV.val]
  · exact h.elim
theorem lv_box [DrK] {t : TypeId} {x : Operand} (ho : o.op = .box t x) (hρ : ∀ x r, ρ x = some r → η x = r.val bx) (hi : Inv V0 w0 V w bx) (h : opX P wr VS bx (.box t x) o.type ρ V C) : OpOk P V0 w0 η o bx w C := by
  simp only [opX] at h
  split at h
  · rename_i v hv
    cases hx : ρ x with
    | none => simp [hx] at hv
    | some r =>
      have hη : η x = v := by rw [hρ x r hx]; rw [hx] at hv; exact toV_val hv
      refine .value (v := .pointer (some ⟨w.heap.size, 0, none⟩)) (w' := more w (.cells ⟨v.cells.toList⟩ t)) ?_ ?_
      · simp [execOp, ho, Instr.box, newVar, newRow, hη, more]
      · refine ⟨_, _, V, fun rv e => ?_, hi.newBox t _, BxRel.push _ _, h w.heap.size⟩
        cases e
        simp [RV.val]
  · exact h.elim
theorem Leaves.newB [DrK] (hi : Inv V0 w0 V w bx) {ob : Obj} {v : Value} (hc : C (some (.v v)) bx (V.put w.heap.size ob)) : Leaves V0 w0 bx C v (more w ob) :=
  ⟨_, bx, _, fun rv e => by cases e; rfl, hi.newB ob, BxRel.refl _, hc⟩
theorem Leaves.same [DrK] (hi : Inv V0 w0 V w bx) {v : Value} (hc : C (some (.v v)) bx V) : Leaves V0 w0 bx C v w :=
  ⟨_, bx, _, fun rv e => by cases e; rfl, hi, BxRel.refl _, hc⟩
theorem lv_makeMap [DrK] {t : TypeId} {r : Option Operand} (ho : o.op = .makeMap t r) (hi : Inv V0 w0 V w bx) (h : opX P wr VS bx (.makeMap t r) o.type ρ V C) : OpOk P V0 w0 η o bx w C := by
  cases r with
  | some _ => exact h.elim
  | none =>
    simp only [opX] at h
    split at h
    · refine .value (v := .map (some w.heap.size)) (w' := more w (.map #[] 0)) ?_ (Leaves.newB hi (h _ hi.isIn.size))
      simp [execOp, ho, Instr.makeMap, more]
    · exact h.elim
theorem flat_len (n : Nat) (z : List Value) : ((List.replicate n z).flatten).length = n * z.length := by simp [List.length_flatten]
theorem cyc_flat (z : List Value) (hz : 0 < z.length) : ∀ n, ((List.range (n * z.length)).map fun i => z[i % z.length]!) = (List.replicate n z).flatten
  | 0 => by simp
  | n + 1 => by
    rw [List.replicate_succ', List.flatten_append, ← cyc_flat z hz n]
    rw [show (n + 1) * z.length = n * z.length + z.length from Nat.succ_mul _ _, List.range_add, List.map_append]
    congr 1
    simp only [List.flatten_cons, List.flatten_nil, List.append_nil, List.map_map]
    apply List.ext_getElem
    · simp
    · intro i h1 h2
      simp only [List.getElem_map, List.getElem_range, Function.comp]
      have : (n * z.length + i) % z.length = i := by
        rw [Nat.add_comm, Nat.add_mul_mod_self_right]
        exact Nat.mod_eq_of_lt h2
      rw [this, getElem!_pos z i h2]
theorem cyc_arr [DrK] (z : Array Value) (n : Nat) (hz : 0 < z.size) : ((Array.range (n * z.size)).map (fun i => z[i % z.size]!)) = ⟨(List.replicate n z.toList).flatten⟩ := by
  apply Array.ext'
  have := cyc_flat z.toList (by simpa using hz) n
  simp only [Array.toList_map, Array.toList_range]
  rw [← this]
  simp only [Array.length_toList]
  apply List.map_congr_left
  intro i _
  have hlt := Nat.mod_lt i hz
  have e := getElem!_pos z (i % z.size) hlt
  simp [Array.getElem?_eq_getElem hlt]
  exact e

theorem range0 : Array.range 0 = #[] := by apply Array.ext' ; simp
theorem lv_makeSlice [DrK] {t : TypeId} {l c : Operand} (ho : o.op = .makeSlice t l c) (hρ : ∀ x r, ρ x = some r → η x = r.val bx) (hi : Inv V0 w0 V w bx) (h : opX P wr VS bx (.makeSlice t l c) o.type ρ V C) : OpOk P V0 w0 η o bx w C := by
  simp only [opX] at h
  split at h
  · rename_i e n m he hl hc
    have hu := elemX_spec he
    split at h
    · rename_i z size bytes hinfo
      obtain ⟨i, zv, hi', hz, hzc, hsz, hby⟩ := infoX_spec hinfo
      split at h
      · rename_i hzl
        obtain ⟨h0, h1, h2, h3, hC⟩ := h
        have hm0 : 0 ≤ m := Int.le_trans h0 h1
        have hwl : IntKind.i64.wrap n = n := by
          simp only [IntKind.wrap, IntKind.signed, IntKind.bits]; simp; omega
        have hwc : IntKind.i64.wrap m = m := by
          simp only [IntKind.wrap, IntKind.signed, IntKind.bits]; simp; omega
        have ht : (decide (m < 0) || decide ((i.bytes : Int) * m > 2 ^ 48)) = false := by
          have : (i.bytes : Int) * m = m * bytes := by rw [hby, Int.mul_comm]
          rw [this]
          simp
          omega
        have hcs : P.cellsOf e = z.length := by rw [hzl, ← hsz]; simp [Program.cellsOf, hi']
        refine .value (v := .slice (some ⟨w.heap.size, 0, none⟩) n.toNat m.toNat) (w' := more w (.cells ⟨(List.replicate m.toNat z).flatten⟩ e)) ?_ (Leaves.newB hi (hC _ hi.isIn.size))
        simp only [execOp, ho, hρ l _ hl, hρ c _ hc, RV.val, Instr.makeSlice, Sem.run_bind, run_underlying hu, Result.andThen_ok, asInt, asIntOf, Sem.run_pure, typeInfo, run_program, hi', hwl, hwc, ht]
        have h4 : ¬ (n < 0) := by omega
        have h5 : ¬ (n > m) := by omega
        by_cases hzero : m.toNat * P.cellsOf e = 0
        · have hnil : (List.replicate m.toNat z).flatten = [] := by
            apply List.eq_nil_of_length_eq_zero
            rw [flat_len, ← hcs]; exact hzero
          simp [h4, h5, run_sizeOf' hi', newRow, hzero, hnil, range0]
          rfl
        · have hpos : 0 < z.length := by
            rw [← hcs]
            exact Nat.pos_of_ne_zero (fun e0 => hzero (by rw [e0]; rfl))
          have harr := cyc_arr ⟨z⟩ m.toNat (by simpa using hpos)
          simp only [List.size_toArray] at harr
          simp [h4, h5, run_sizeOf' hi', newRow, hzero, zeroValue_run hi' hz, hzc, hcs]
          have harr2 : Array.map (fun x => z[x % z.length]?.getD default) (Array.range (m.toNat * z.length)) = ⟨(List.replicate m.toNat z).flatten⟩ := by
            rw [← harr]
            apply Array.map_congr_left
            intro x _
            simp
          rw [if_neg (by rw [← hcs]; exact hzero), harr2]
          rfl
      · exact h.elim
    · exact h.elim
  · exact h.elim

theorem lv_buildSlice [DrK] {t : TypeId} {len : Nat} {parts : Array (Nat × Operand)} (ho : o.op = .buildSlice t len parts) (hρ : ∀ x r, ρ x = some r → η x = r.val bx) (hi : Inv V0 w0 V w bx)
    (h : opX P wr VS bx (.buildSlice t len parts) o.type ρ V C) : OpOk P V0 w0 η o bx w C := by
  simp only [opX] at h
  split at h
  · rename_i e ps he hp
    have hu := elemX_spec he
    split at h
    · rename_i z size bytes hinfo
      obtain ⟨i, zv, hi', hz, hzc, hsz, hby⟩ := infoX_spec hinfo
      split at h
      · rename_i cs hcs
        split at h
        · rename_i hb
          obtain ⟨hb1, hzl⟩ := hb
          have hce : P.cellsOf e = size := by rw [← hsz]; simp [Program.cellsOf, hi']
          refine .value (v := .slice (some ⟨w.heap.size, 0, none⟩) len len) (w' := more w (.cells ⟨cs⟩ e)) ?_ (Leaves.newB hi (h _ hi.isIn.size))
          have e1 : (parts.map fun p => (p.1, η p.2)).toList = ps := by rw [Array.toList_map]; exact partsX_spec hρ _ _ hp
          have hfill := fillX_spec ps _ _ hcs
          have h24 : ¬ (len * size > 2 ^ 24) := by omega
          by_cases hzero : len * size = 0
          · have hnil : (List.replicate len z).flatten = [] := by
              apply List.eq_nil_of_length_eq_zero
              rw [flat_len, hzl]; exact hzero
            rw [hnil] at hfill
            simp only [execOp, ho, Instr.buildSlice, Sem.run_bind, run_underlying hu, Result.andThen_ok, run_sizeOf' hi', hce, hzero]
            rw [e1]
            simp [hfill, newRow, range0]
            rfl
          · have hpos : 0 < z.length := by
              rw [hzl]
              exact Nat.pos_of_ne_zero (fun e0 => hzero (by rw [e0]; rfl))
            have harr := cyc_arr ⟨z⟩ len (by simpa using hpos)
            simp only [List.size_toArray] at harr
            have harr2 : Array.map (fun x => z[x % z.length]?.getD default) (Array.range (len * z.length)) = ⟨(List.replicate len z).flatten⟩ := by
              rw [← harr]
              apply Array.map_congr_left
              intro x _
              simp
            simp only [execOp, ho, Instr.buildSlice, Sem.run_bind, run_underlying hu, Result.andThen_ok, run_sizeOf' hi', hce]
            rw [e1]
            have h24' : ¬ (16777216 < len * z.length) := by rw [hzl]; omega
            simp only [← hzl] at hfill hzero
            simp [zeroValue_run hi' hz, hzc, ← hzl, h24', hzero, harr2, hfill, newRow]
            rfl
        · exact h.elim
      · exact h.elim
    · exact h.elim
  · exact h.elim
end
end Go.Proofs.YtgkmcnafkhdlnaaGreat
