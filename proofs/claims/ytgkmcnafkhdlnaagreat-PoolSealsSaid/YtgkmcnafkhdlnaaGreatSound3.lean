/- The executor of YtgkmcnafkhdlnaaGreatCore is right: operations that float, the rest. -/
import Derived.Test.YtgkmcnafkhdlnaaGreatSound2
set_option linter.unusedSimpArgs false
set_option linter.unusedVariables false
namespace Go.Proofs.YtgkmcnafkhdlnaaGreat
open Go Go.RowKit
section
variable {P : Program} {wr : Bool} {VS : Option View} {bx : List Box} {ρ : Operand → Option RV} {η : Operand → Value} {V : View} {C : Option RV → List Box → View → Prop} {o : Oper}

theorem fl_makeFunc [DrK] {fn : Fn} {f c : Array Operand} (ho : o.op = .makeFunc fn f c) (hρ : ∀ x r, ρ x = some r → η x = r.val bx) (h : opX P wr VS bx (.makeFunc fn f c) o.type ρ V C) : FloatOk P bx (VS.getD V) η o V C := by
  simp only [opX] at h
  split at h
  · rename_i g f' c' hf hc
    refine .one (fun w _ => ?_) h
    have h1 := vals_val hρ _ _ hf
    have h2 := vals_val hρ _ _ hc
    have e1 : f.map η = ⟨f'⟩ := by apply Array.ext'; simpa using h1
    have e2 : c.map η = ⟨c'⟩ := by apply Array.ext'; simpa using h2
    simp [execOp, ho, Instr.makeFunc, e1, e2]
  · exact h.elim
theorem optV_spec (hρ : ∀ x r, ρ x = some r → η x = r.val bx) {x : Option Operand} {v : Option Value} (h : optV ρ x = some v) : x.map η = v := by
  cases x with
  | none => simpa [optV] using h
  | some x =>
    simp only [optV] at h
    split at h
    · rename_i v' hx
      cases h
      simp [hρ x _ hx, RV.val]
    · cases h
theorem sliceBounds_run {b : Bool} {n c : Nat} {lo hi : Option Value} {i j : Int} (hl : lo? lo = some i) (hh : hi? hi n = some j) (h0 : 0 ≤ i) (hij : i ≤ j) (hjc : j ≤ c) (w : World) :
    (Instr.sliceBounds b n c lo hi none).run P w = .ok (i.toNat, j.toNat, c) w := by
  have key : ∀ (y : Nat) (k : IntKind) (z : Int) (code : BoundsCode), 0 ≤ z → z ≤ y → (Instr.sliceBound (.int k z) y code).run P w = .ok z.toNat w := fun y k z code h1 h2 => by
    simp [Instr.sliceBound, asIntOf, h1, h2]
  have hj0 : 0 ≤ j := Int.le_trans h0 hij
  unfold Instr.sliceBounds
  cases hi with
  | none =>
    simp only [hi?, Option.some.injEq] at hh
    subst hh
    cases lo with
    | none =>
      simp only [lo?, Option.some.injEq] at hl
      subst hl
      simp
    | some l =>
      cases l <;> simp [lo?] at hl
      rename_i k z
      subst hl
      simp [key _ _ _ _ h0 hij]
  | some hv =>
    cases hv <;> simp [hi?] at hh
    rename_i k z
    subst hh
    have hk2 := key c k z (if b = true then .sliceAcap else .sliceAlen) hj0 hjc
    cases lo with
    | none =>
      simp only [lo?, Option.some.injEq] at hl
      subst hl
      simp [hk2]
    | some l =>
      cases l <;> simp [lo?] at hl
      rename_i k' z'
      subst hl
      have := key z.toNat k' z' .sliceB h0 (by omega)
      simp [hk2, this]
theorem fl_slice [DrK] {t : TypeId} {x : Operand} {lo hi mx : Option Operand} (ho : o.op = .slice t x lo hi mx) (hρ : ∀ x r, ρ x = some r → η x = r.val bx) (h : opX P wr VS bx (.slice t x lo hi mx) o.type ρ V C) : FloatOk P bx (VS.getD V) η o V C := by
  cases mx with
  | some m => exact h.elim
  | none =>
    simp only [opX] at h
    split at h
    · rename_i s l hv hu hx hl hh
      have e1 := optV_spec hρ hl
      have e2 := optV_spec hρ hh
      split at h
      · rename_i i j hi' hj'
        obtain ⟨h0, h1, h2, h3⟩ := h
        refine .one (fun w _ => ?_) h3
        have := sliceBounds_run (P := P) (b := false) hi' hj' h0 h1 (by exact_mod_cast h2) w
        simp [execOp, ho, hρ x _ hx, RV.val, Instr.sliceAt, run_underlying hu, Instr.slice, e1, e2, this]
      · exact h.elim
    · rename_i e a n c l hv hu hx hl hh
      have e1 := optV_spec hρ hl
      have e2 := optV_spec hρ hh
      split at h
      · rename_i i j hi' hj'
        split at h
        · exact h.elim
        · rename_i hne
          obtain ⟨h0, h1, h2, h3⟩ := h
          refine .one (fun w _ => ?_) h3
          have := sliceBounds_run (P := P) (b := true) hi' hj' h0 h1 (by exact_mod_cast h2) w
          simp [execOp, ho, hρ x _ hx, RV.val, Instr.sliceAt, run_underlying hu, Instr.slice, e1, e2, this, run_sizeOf_pos hne]
      · exact h.elim
    · exact h.elim

theorem fl_fieldAddr [DrK] {t : TypeId} {x : Operand} {f : Nat} (ho : o.op = .fieldAddr t x f) (hρ : ∀ x r, ρ x = some r → η x = r.val bx) (h : opX P wr VS bx (.fieldAddr t x f) o.type ρ V C) : FloatOk P bx (VS.getD V) η o V C := by
  simp only [opX] at h
  split at h
  · rename_i off ft i off' hf hx
    obtain ⟨fs, fd, hu, hfd, rfl, rfl⟩ := fieldX_spec hf
    split at h
    · exact h.elim
    · rename_i hne
      refine .rv (fun w _ => ?_) h
      simp [execOp, ho, hρ x _ hx, RV.val, Instr.fieldAt, run_underlying hu, hfd, Instr.sureAddr, fieldPlace_run hne, addr_add]
  · rename_i off ft a hf hx
    obtain ⟨fs, fd, hu, hfd, rfl, rfl⟩ := fieldX_spec hf
    split at h
    · exact h.elim
    · rename_i hne
      refine .one (fun w _ => ?_) h
      simp [execOp, ho, hρ x _ hx, RV.val, Instr.fieldAt, run_underlying hu, hfd, Instr.sureAddr, fieldPlace_run hne]
  · exact h.elim
theorem fl_field [DrK] {t : TypeId} {x : Operand} {f : Nat} (ho : o.op = .field t x f) (hρ : ∀ x r, ρ x = some r → η x = r.val bx) (h : opX P wr VS bx (.field t x f) o.type ρ V C) : FloatOk P bx (VS.getD V) η o V C := by
  simp only [opX] at h
  split at h
  · rename_i off ft cs hf hx
    obtain ⟨fs, fd, hu, hfd, rfl, rfl⟩ := fieldX_spec hf
    split at h
    · rename_i v hv
      refine .one (fun w _ => ?_) h
      simp [execOp, ho, hρ x _ hx, RV.val, Instr.field, run_underlying hu, hfd, asAgg, part_run hv]
    · exact h.elim
  · exact h.elim
theorem fl_indexAddr [DrK] {t : TypeId} {x i : Operand} (ho : o.op = .indexAddr t x i) (hρ : ∀ x r, ρ x = some r → η x = r.val bx) (h : opX P wr VS bx (.indexAddr t x i) o.type ρ V C) : FloatOk P bx (VS.getD V) η o V C := by
  simp only [opX] at h
  split at h
  · rename_i e a n c k j he hx hi
    have hu := elemX_spec he
    split at h
    · exact h.elim
    · rename_i hne
      obtain ⟨h0, h1, ad, rfl, hc⟩ := h
      refine .one (fun w _ => ?_) hc
      simp [execOp, ho, hρ x _ hx, hρ i _ hi, RV.val, Instr.indexAt, asIntOf, run_underlying hu, h0, h1, run_sizeOf_pos hne]
  · rename_i a k j he hx hi
    split at h
    · rename_i n e ha
      have hu := arrX_spec ha
      split at h
      · exact h.elim
      · rename_i hne
        obtain ⟨h0, h1, hc⟩ := h
        refine .one (fun w _ => ?_) hc
        simp [execOp, ho, hρ x _ hx, hρ i _ hi, RV.val, Instr.indexAt, Instr.sureAddr, asIntOf, run_underlying hu, h0, h1, run_sizeOf_pos hne]
    · exact h.elim
  · exact h.elim
theorem fl_index [DrK] {t : TypeId} {x i : Operand} (ho : o.op = .index t x i) (hρ : ∀ x r, ρ x = some r → η x = r.val bx) (h : opX P wr VS bx (.index t x i) o.type ρ V C) : FloatOk P bx (VS.getD V) η o V C := by
  simp only [opX] at h
  split at h
  · rename_i s k j hu hx hi
    obtain ⟨h0, h1, hc⟩ := h
    refine .one (fun w _ => ?_) hc
    have hlt : j.toNat < s.size := by omega
    have hlt' : j.toNat < s.data.size := hlt
    have e : s[j.toNat]? = some (s.data.toList.getD j.toNat 0) := by
      rw [getElem?_pos s j.toNat hlt]
      simp only [List.getD_eq_getElem?_getD]
      rw [Array.getElem?_toList, Array.getElem?_eq_getElem hlt']
      rfl
    simp only [execOp, ho, hρ x _ hx, hρ i _ hi, RV.val, Instr.index, asIntOf]
    simp only [Sem.run_bind, Sem.run_pure, Result.andThen_ok, run_underlying hu, if_pos h0, e]
  · exact h.elim
theorem fl_extract [DrK] {x : Operand} {i : Nat} (ho : o.op = .extract x i) (hρ : ∀ x r, ρ x = some r → η x = r.val bx) (h : opX P wr VS bx (.extract x i) o.type ρ V C) : FloatOk P bx (VS.getD V) η o V C := by
  simp only [opX] at h
  split at h
  · rename_i vs hx
    split at h
    · rename_i v hv
      exact .one (fun w _ => by simp [execOp, ho, hρ x _ hx, RV.val, Instr.extract, hv]) h
    · exact h.elim
  · exact h.elim

theorem putL_length : ∀ (l cs : List Value) (off : Nat), (putL cs off l).length = cs.length
  | [], _, _ => rfl
  | v :: l, cs, off => by rw [putL, putL_length l]; simp
theorem putL_fold : ∀ (l cs : List Value) (off k : Nat), (l.zipIdx k).foldl (fun (cs : Array Value) (p : Value × Nat) => cs.setIfInBounds (off + p.2) p.1) ⟨cs⟩ = ⟨putL cs (off + k) l⟩
  | [], _, _, _ => rfl
  | v :: l, cs, off, k => by
    rw [List.zipIdx_cons, List.foldl_cons, putL]
    have : (⟨cs⟩ : Array Value).setIfInBounds (off + k) v = ⟨cs.set (off + k) v⟩ := by apply Array.ext'; simp
    simp only
    rw [this, putL_fold l _ off (k + 1)]
    rfl
theorem fillX_spec [DrK] {place : Nat → Option (Nat × Nat)} : ∀ (ps : List (Nat × Value)) (cs r : List Value), fillX place cs ps = some r → Instr.fill place ⟨cs⟩ ps = some ⟨r⟩
  | [], cs, r, h => by simp only [fillX, Option.some.injEq] at h; subst h; rfl
  | (i, v) :: ps, cs, r, h => by
    simp only [fillX] at h
    split at h
    · cases h
    · rename_i off size hp
      split at h
      · rename_i hc
        have ih := fillX_spec ps _ _ h
        simp only [Instr.fill, hp]
        have h1 : (decide (v.cells.size ≠ size) || decide (off + v.cells.size > (⟨cs⟩ : Array Value).size)) = false := by
          have := hc.1
          have := hc.2
          simp
          omega
        rw [if_neg (by rw [h1]; simp)]
        have e : (v.cells.zipIdx.foldl (fun (cs : Array Value) (p : Value × Nat) => cs.setIfInBounds (off + p.2) p.1) ⟨cs⟩) = ⟨putL cs off v.cells.toList⟩ := by
          rw [← Array.foldl_toList, Array.toList_zipIdx]
          exact putL_fold _ _ _ 0
        rw [← e] at ih
        exact ih
      · cases h
theorem infoX_spec {t : TypeId} {z : List Value} {a b : Nat} (h : infoX P t = some (z, a, b)) : ∃ i zv, P.info? t = some i ∧ i.zero = some zv ∧ zv.cells = ⟨z⟩ ∧ i.size = a ∧ i.bytes = b := by
  unfold infoX at h
  split at h
  · rename_i i hi
    split at h
    · rename_i zv hz
      cases h
      exact ⟨i, zv, hi, hz, rfl, rfl, rfl⟩
    · cases h
  · cases h
theorem zeroValue_run {t : TypeId} {i : TypeInfo} {zv : Value} (hi : P.info? t = some i) (hz : i.zero = some zv) (w : World) : (zeroValue t).run P w = .ok zv w := by
  simp [zeroValue, typeInfo, hi, hz]
theorem partsX_spec [DrK] (hρ : ∀ x r, ρ x = some r → η x = r.val bx) : ∀ (l : List (Nat × Operand)) (ps : List (Nat × Value)), partsX bx ρ l = some ps → (l.map fun p => (p.1, η p.2)) = ps
  | [], ps, h => by simp only [partsX, Option.some.injEq] at h; subst h; rfl
  | (i, x) :: l, ps, h => by
    simp only [partsX] at h
    split at h
    · rename_i rv l' hx hl
      split at h
      · rename_i v hv
        cases h
        rw [List.map_cons, partsX_spec hρ l _ hl]
        simp [hρ x _ hx, toV_val hv]
      · cases h
    · cases h
theorem places_run [DrK] (f : Field → TypeId) : ∀ (l : List Field), (l.all fun fd => P.cellsOf (f fd) != 0) = true → ∀ (w : World),
    (l.mapM fun fd => (do pure (fd.offset, ← sizeOf (f fd)) : Sem (Nat × Nat))).run P w = .ok (l.map fun fd => (fd.offset, P.cellsOf (f fd))) w
  | [], _, w => by simp
  | fd :: l, h, w => by
    simp only [List.all_cons, Bool.and_eq_true, bne_iff_ne] at h
    have ih := places_run f l h.2 w
    simp only [List.mapM_cons, Sem.run_bind, run_sizeOf_pos h.1, Result.andThen_ok, Sem.run_pure, ih, List.map_cons]
theorem fl_build [DrK] {t : TypeId} {parts : Array (Nat × Operand)} (ho : o.op = .build t parts) (hρ : ∀ x r, ρ x = some r → η x = r.val bx) (h : opX P wr VS bx (.build t parts) o.type ρ V C) : FloatOk P bx (VS.getD V) η o V C := by
  simp only [opX] at h
  split at h
  · rename_i z a b fs ps hi hu hp
    obtain ⟨i, zv, hi', hz, hzc, _, _⟩ := infoX_spec hi
    split at h
    · rename_i cs hcs
      split at hcs
      · rename_i hall
        refine .one (fun w _ => ?_) h
        have e1 : (parts.map fun p => (p.1, η p.2)).toList = ps := by rw [Array.toList_map]; exact partsX_spec hρ _ _ hp
        have e2 : (fs.mapM fun f => (do pure (f.offset, ← sizeOf f.type) : Sem (Nat × Nat))).run P w = .ok (fs.map fun fd => (fd.offset, P.cellsOf fd.type)) w := by
          have := places_run (P := P) (fun fd => fd.type) fs.toList hall w
          rw [Array.mapM_eq_mapM_toList, Sem.run_map, this, Result.andThen_ok]
          congr 1
          apply Array.ext'
          simp
        have e3 : Instr.fill ((fs.map fun (fd : Field) => (fd.offset, P.cellsOf fd.type))[·]?) zv.cells ps = some ⟨cs⟩ := by
          rw [hzc]
          have := fillX_spec ps z cs hcs
          have hpl : (fun (i : Nat) => ((fs.map fun (fd : Field) => (fd.offset, P.cellsOf fd.type))[i]?)) = (fun (i : Nat) => (fs[i]?).map fun (fd : Field) => (fd.offset, P.cellsOf fd.type)) := by
            funext i
            simp
          rw [hpl]
          exact this
        simp only [execOp, ho, Instr.build, Sem.run_bind, zeroValue_run hi' hz, Result.andThen_ok, run_underlying hu, e2]
        rw [e1, e3]
        rfl
      · cases hcs
    · exact h.elim
  · exact h.elim
theorem fl_builtin [DrK] {b : Builtin} {args : Array Operand} {ats : Array TypeId} (hf : floats P (.call { callee := .builtin b, args := args, argTypes := ats }) = true) (ho : o.op = .call { callee := .builtin b, args := args, argTypes := ats })
    (hρ : ∀ x r, ρ x = some r → η x = r.val bx) (h : opX P wr VS bx (.call { callee := .builtin b, args := args, argTypes := ats }) o.type ρ V C) : FloatOk P bx (VS.getD V) η o V C := by
  have hargs : ∀ vs, vals bx ρ args.toList = some vs → args.map η = ⟨vs⟩ := fun vs hv => by
    apply Array.ext'; simpa using vals_val hρ _ _ hv
  have run : ∀ (vs : List Value) (v : Value) (w : World), args.map η = ⟨vs⟩ → (builtin b ats o.type (args.map fun | .const _ => true | _ => false) ⟨vs⟩).run P w = .ok (.value v) w → (execOp η o).run P w = .ok (.value v) w := fun vs v w e hr => by
    simp only [execOp, ho, resolve, e]
    exact hr
  simp only [opX] at h
  split at h
  · rename_i t ts x hts hv
    have e := hargs _ hv
    have et : ats[0]? = some t := by rw [← Array.getElem?_toList, hts]; rfl
    split at h
    · rename_i s hu
      exact .one (fun w _ => run _ _ w e (by simp [builtin, Builtin.len_, et, run_underlying hu, goInt])) h
    · rename_i el a n c hu
      exact .one (fun w _ => run _ _ w e (by simp [builtin, Builtin.len_, et, run_underlying hu, goInt])) h
    · rename_i k el hu
      exfalso
      simp [floats, et, hu] at hf
    · rename_i k el r hu
      exfalso
      simp [floats, et, hu] at hf
    · exact h.elim
  · rename_i t ts x hts hv
    have e := hargs _ hv
    have et : ats[0]? = some t := by rw [← Array.getElem?_toList, hts]; rfl
    split at h
    · rename_i el a n c hu
      exact .one (fun w _ => run _ _ w e (by simp [builtin, Builtin.cap_, et, run_underlying hu, goInt])) h
    · exact h.elim
  · rename_i x r hv
    have e := hargs _ hv
    obtain ⟨v, h1, h2⟩ := minX_run (P := P) _ _ _ h
    refine .one (fun w _ => run _ _ w e ?_) h2
    have := h1 w
    simp only [cond_false] at this
    simp [builtin, Builtin.min_, this]
  · rename_i x r hv
    have e := hargs _ hv
    obtain ⟨v, h1, h2⟩ := minX_run (P := P) _ _ _ h
    refine .one (fun w _ => run _ _ w e ?_) h2
    have := h1 w
    simp only [cond_true] at this
    simp [builtin, Builtin.max_, this]
  · simp [floats] at hf
  · simp [floats] at hf
  · simp [floats] at hf
  · simp [floats] at hf
  · exact h.elim
theorem zeroX_run {t : TypeId} {z : Value} (h : zeroX P t = some z) (w : World) : (zeroValue t).run P w = .ok z w := by
  unfold zeroX at h
  cases hi : P.info? t with
  | none => rw [hi] at h; cases h
  | some i => rw [hi] at h; simp [zeroValue, typeInfo, hi, show i.zero = some z from h]
theorem exV_some [DrK] : ∀ (k : VK) {C : Value → Prop}, exV k C → ∃ v, C v
  | .one _, _, ⟨x, h⟩ => ⟨_, h⟩
  | .agg ks, C, h => by
    obtain ⟨vs, _, _, h⟩ := exTy_spec _ _ h
    exact ⟨_, h⟩
theorem fl_lookup [DrK] {t : TypeId} {x i : Operand} {ok : Bool} (ho : o.op = .lookup t x i ok) (hρ : ∀ x r, ρ x = some r → η x = r.val bx) (h : opX P wr VS bx (.lookup t x i ok) o.type ρ V C) : FloatOk P bx (VS.getD V) η o V C := by
  simp only [opX] at h
  split at h
  · rename_i kt et m k hu hx hi
    split at h
    · rename_i kd z hf hk hz
      obtain ⟨heq, h⟩ := h
      have fin : ∀ (f : Option (Nat × Value)), (∀ v, found z f = v → ∀ w, Good (VS.getD V) bx w → (execOp η o).run P w = .ok (.value (lookV ok v f)) w) → (exV kd fun v => found z f = v ∧ C (some (.v (lookV ok v f))) bx V) → FloatOk P bx (VS.getD V) η o V C := by
        intro f hr hC
        obtain ⟨v, hv, hC⟩ := exV_some _ hC
        exact .one (fun w hw => hr v hv w (hw (by rw [ho]; rfl))) hC
      have hz' := zeroX_run hz
      cases m with
      | none =>
        refine fin none (fun v hv w hw => ?_) h
        have h1 := checkKey_run hf true 9998 w
        have h2 := findKey_run heq hf (es := []) (f := none) rfl w
        simp only [found] at hv
        subst hv
        cases ok <;> simp [execOp, ho, hρ x _ hx, hρ i _ hi, RV.val, Instr.lookup, run_underlying hu, h1, h2, hz' w, lookV]
      | some r =>
        obtain ⟨es, cl, f, hs, hfind, hC⟩ := h
        refine fin f (fun v hv w hw => ?_) hC
        have h1 := checkKey_run hf es.isEmpty 9998 w
        have h2 := findKey_run heq hf hfind w
        have hb := hw.isIn r _ hs
        have h3 : (getObj r).run P w = .ok (.map es cl) w := by simp [getObj, Sem.run, hb]
        cases f with
        | none =>
          simp only [found] at hv
          subst hv
          cases ok <;> simp [execOp, ho, hρ x _ hx, hρ i _ hi, RV.val, Instr.lookup, run_underlying hu, h3, h1, h2, hz' w, lookV]
        | some p =>
          simp only [found] at hv
          subst hv
          cases ok <;> simp [execOp, ho, hρ x _ hx, hρ i _ hi, RV.val, Instr.lookup, run_underlying hu, h3, h1, h2, lookV]
    · exact h.elim
  · exact h.elim
theorem fl_move {x : Operand} (ho : o.op = .move x ∨ o.op = .assign x) (hρ : ∀ x r, ρ x = some r → η x = r.val bx) (h : C (ρ x) bx V) : FloatOk P bx (VS.getD V) η o V C :=
  ⟨η x, ρ x, fun w _ => by rcases ho with ho | ho <;> simp [execOp, ho], fun rv e => (hρ x rv e).symm, h⟩

/-- An operation that floats yields one value, in every good world. -/
theorem opX_float [DrK] {op : Op} (hf : floats P op = true) (hpick : ∀ c a b, op ≠ .pick c a b) (ho : o.op = op) (hρ : ∀ x r, ρ x = some r → η x = r.val bx) (h : opX P wr VS bx op o.type ρ V C) : FloatOk P bx (VS.getD V) η o V C := by
  cases op with
  | move x => exact fl_move (.inl ho) hρ h
  | assign x => exact fl_move (.inr ho) hρ h
  | pick c a b => exact absurd rfl (hpick c a b)
  | load t x => exact fl_load ho hρ h
  | lookup t x i ok => exact fl_lookup ho hρ h
  | nilCheck x => exact fl_nilCheck ho hρ h
  | binOp op t x y u => exact fl_binOp ho hρ h
  | unOp op t x => exact fl_unOp ho hρ h
  | convert s d x => exact fl_convert hf ho hρ h
  | makeFunc fn f c => exact fl_makeFunc ho hρ h
  | slice t x lo hi mx => exact fl_slice ho hρ h
  | fieldAddr t x f => exact fl_fieldAddr ho hρ h
  | field t x f => exact fl_field ho hρ h
  | indexAddr t x i => exact fl_indexAddr ho hρ h
  | index t x i => exact fl_index ho hρ h
  | extract x i => exact fl_extract ho hρ h
  | build t ps => exact fl_build ho hρ h
  | call c =>
    obtain ⟨callee, args, ats⟩ := c
    cases callee with
    | builtin b => exact fl_builtin hf ho hρ h
    | value f => simp [floats] at hf
    | invoke r m => simp [floats] at hf
  | _ => simp [floats] at hf
end
end Go.Proofs.YtgkmcnafkhdlnaaGreat
