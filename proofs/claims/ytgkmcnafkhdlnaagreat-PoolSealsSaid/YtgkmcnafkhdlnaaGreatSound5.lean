/- The executor of YtgkmcnafkhdlnaaGreatCore is right: stores, calls, append, copy. -/
import Derived.Test.YtgkmcnafkhdlnaaGreatSoundM
import Derived.Lib.ConvBytes
import Derived.Laws.BytesString
set_option linter.unusedSimpArgs false
set_option linter.unusedVariables false
namespace Go.Proofs.YtgkmcnafkhdlnaaGreat
open Go Go.RowKit
section
variable {P : Program} {wr : Bool} {VS : Option View} {bx : List Box} {ρ : Operand → Option RV} {η : Operand → Value} {V0 V : View} {w0 w : World} {C : Option RV → List Box → View → Prop} {o : Oper}

theorem heap_setCell (w : World) (b o : Nat) (c : Array Value) (e : TypeId) (f : Nat × Nat) (v : Value) (hb : w.heap[b]? = some (.cells c e f)) :
    (w.setCell ⟨b, o, none⟩ v).heap[b]? = some (.cells (c.setIfInBounds o v) e f) := by
  simp [World.setCell, Array.getElem?_modify, hb]
theorem heap_setCell_ne (w : World) (b o : Nat) (v : Value) (j : Nat) (h : j ≠ b) : (w.setCell ⟨b, o, none⟩ v).heap[j]? = w.heap[j]? := by
  simp only [World.setCell, Array.getElem?_modify]
  rw [if_neg (fun e => h e.symm)]
theorem heap_setCell_size (w : World) (a : Addr) (v : Value) : (w.setCell a v).heap.size = w.heap.size := by simp [World.setCell]
theorem storeCells_run [DrK] (b off : Nat) (e : TypeId) (f : Nat × Nat) : ∀ (vs : List Value) (i : Nat) (w : World) (c : Array Value), w.heap[b]? = some (.cells c e f) → vs.all Value.oneCell' = true →
    off + i + vs.length ≤ c.size → (∀ j, i ≤ j → j < i + vs.length → ¬ (f.1 ≤ off + j ∧ off + j < f.2)) →
    ∃ w', (storeCells ⟨b, off, none⟩ vs i).run P w = .ok () w' ∧ w'.heap[b]? = some (setObj (.cells c e f) (off + i) vs) ∧ (∀ j, j ≠ b → w'.heap[j]? = w.heap[j]?) ∧
      w'.heap.size = w.heap.size ∧ World.all4 w' = World.all4 w
  | [], i, w, c, hb, _, _, _ => ⟨w, by simp [storeCells], by simpa [setObj] using hb, fun _ _ => rfl, rfl, rfl⟩
  | v :: vs, i, w, c, hb, hone, hlen, hfr => by
    simp only [List.all_cons, Bool.and_eq_true] at hone
    simp only [List.length_cons] at hlen hfr
    have hcell : w.cell? ⟨b, off + i, none⟩ = some c[off + i] := by
      simp [World.cell?, hb, Array.getElem?_eq_getElem (show off + i < c.size by omega)]
    have hfz : w.frozen? ⟨b, off + i, none⟩ = false := by
      have := hfr i (Nat.le_refl _) (by omega)
      simp only [World.frozen?, hb]
      simp only [Bool.and_eq_false_iff, decide_eq_false_iff_not]
      omega
    obtain ⟨w', h1, h2, h3, h4, h5⟩ := storeCells_run b off e f vs (i + 1) (w.setCell ⟨b, off + i, none⟩ v) (c.setIfInBounds (off + i) v) (heap_setCell w b (off + i) c e f v hb) hone.2 (by simp; omega) (fun j hj hj' => hfr j (by omega) (by omega))
    refine ⟨w', ?_, ?_, fun j hj => (h3 j hj).trans (heap_setCell_ne _ _ _ _ j hj), h4.trans (heap_setCell_size _ _ _), h5⟩
    · simp only [storeCells, addr_add, Sem.run_bind]
      rw [run_store P w ⟨b, off + i, none⟩ v .plain hone.1, hcell]
      simp only [hfz]
      exact h1
    · rw [h2]; rfl
theorem storeVar_run [DrK] {t : TypeId} {v : Value} (ht : v.cells.size = P.cellsOf t) (hp : P.cellsOf t ≠ 0) (a : Addr) (w : World) : (storeVar t a v).run P w = (storeCells a v.cells.toList).run P w := by
  simp [storeVar, run_sizeOf_pos hp, ht]
/-- A box is written. -/
theorem putL_setObj (e : TypeId) (f : Nat × Nat) : ∀ (vs cs : List Value) (off : Nat), setObj (.cells ⟨cs⟩ e f) off vs = .cells ⟨putL cs off vs⟩ e f
  | [], _, _ => rfl
  | v :: vs, cs, off => by
    have : (⟨cs⟩ : Array Value).setIfInBounds off v = ⟨cs.set off v⟩ := by apply Array.ext'; simp
    simp only [setObj, putL, this]
    exact putL_setObj e f vs _ _
theorem Inv.setBox [DrK] (hi : Inv V0 w0 V w bx) {i : Nat} {b : Box} {cs cs' : List Value} (hb : bx[i]? = some b) (hc : b.cells = some cs) {w' : World}
    (h1 : w'.heap[b.blk]? = some (.cells ⟨cs'⟩ b.ty (0, 0))) (h2 : ∀ j, j ≠ b.blk → w'.heap[j]? = w.heap[j]?) (h3 : w'.heap.size = w.heap.size) (h4 : World.all4 w' = World.all4 w) :
    Inv V0 w0 V w' (boxSet bx i cs') where
  isIn := ⟨by rw [h3]; exact hi.isIn.size, fun j o hj => by
    have hne : j ≠ b.blk := fun e => by
      have := (hi.boxes.shut i b cs hb hc).1
      rw [e, this] at hj; cases hj
    rw [h2 j hne]; exact hi.isIn.see j o hj, by rw [World.all4_outer h4]; exact hi.isIn.out⟩
  fr := ⟨by rw [h3]; exact hi.fr.size, fun j hj hn => by
    have := (hi.boxes.lo i b hb).1
    have h5 := hi.fr.hid j hj hn
    exact ⟨h5.1, by rw [h2 j (by omega)]; exact h5.2⟩, fun x => Nat.le_trans (hi.fr.drawn x) (World.all4_drawn h4)⟩
  boxes := by
    have hget : ∀ (j : Nat) (c : Box), (boxSet bx i cs')[j]? = some c → (j = i ∧ c = { b with ver := b.ver + 1, cells := some cs' }) ∨ (j ≠ i ∧ bx[j]? = some c) := fun j c hj => by
      simp only [boxSet, hb] at hj
      rw [List.getElem?_set] at hj
      split at hj
      · rename_i e
        subst e
        split at hj
        · left; exact ⟨rfl, (Option.some.inj hj).symm⟩
        · cases hj
      · rename_i e; right; exact ⟨fun e' => e e'.symm, hj⟩
    refine ⟨fun j c hj => ?_, fun j c cs2 hj hc2 => ?_, fun j k c d hj hk e => ?_⟩
    · rcases hget j c hj with ⟨_, rfl⟩ | ⟨_, hj'⟩
      · rw [h3]; exact hi.boxes.lo i b hb
      · rw [h3]; exact hi.boxes.lo j c hj'
    · rcases hget j c hj with ⟨_, rfl⟩ | ⟨hne, hj'⟩
      · cases hc2
        exact ⟨(hi.boxes.shut i b cs hb hc).1, h1⟩
      · have h5 := hi.boxes.shut j c cs2 hj' hc2
        refine ⟨h5.1, ?_⟩
        rw [h2 c.blk (fun e => hne (hi.boxes.ne j i c b hj' hb e))]
        exact h5.2
    · rcases hget j c hj with ⟨hj1, rfl⟩ | ⟨hj1, hj'⟩ <;> rcases hget k d hk with ⟨hk1, rfl⟩ | ⟨hk1, hk'⟩
      · omega
      · exact absurd (hi.boxes.ne i k b d hb hk' e) (fun h => hk1 h.symm)
      · exact absurd (hi.boxes.ne j i c b hj' hb e) hj1
      · exact hi.boxes.ne j k c d hj' hk' e
theorem BxRel.boxSet (bx : List Box) (i : Nat) (cs : List Value) : BxRel bx (boxSet bx i cs) := fun j b hj => by
  unfold Go.Proofs.YtgkmcnafkhdlnaaGreat.boxSet
  split
  · rename_i c hc
    by_cases e : j = i
    · subst e
      rw [hc] at hj
      cases hj
      refine ⟨_, List.getElem?_set_self (List.getElem?_eq_some_iff.1 hc).1, by simp, ⟨rfl, rfl⟩, fun h => ?_⟩
      simp only at h
      omega
    · exact ⟨b, by rw [List.getElem?_set_ne (fun e' => e e'.symm)]; exact hj, Nat.le_refl _, ⟨rfl, rfl⟩, fun _ => rfl⟩
  · exact ⟨b, hj, Nat.le_refl _, ⟨rfl, rfl⟩, fun _ => rfl⟩
theorem setObj_shape (e : TypeId) (f : Nat × Nat) : ∀ (vs : List Value) (c : Array Value) (off : Nat), ∃ c', setObj (.cells c e f) off vs = .cells c' e f ∧ c'.size = c.size
  | [], c, _ => ⟨c, rfl, rfl⟩
  | v :: vs, c, off => by
    obtain ⟨c', h1, h2⟩ := setObj_shape e f vs (c.setIfInBounds off v) (off + 1)
    exact ⟨c', h1, by rw [h2]; simp⟩
/-- Cells that are seen are written. -/
theorem Inv.sets [DrK] (hi : Inv V0 w0 V w bx) {a : Addr} {vs : List Value} (hcan : canSet V a vs.length) (hone : vs.all Value.oneCell' = true) :
    ∃ w', (storeCells a vs).run P w = .ok () w' ∧ Inv V0 w0 (V.sets a vs) w' bx := by
  obtain ⟨hsp, c, e, f, hs, hl, hf⟩ := hcan
  obtain ⟨b, off, sp⟩ := a
  simp only at hsp hs hl hf
  subst hsp
  have hb := hi.isIn.see _ _ hs
  obtain ⟨w', h1, h2, h3, h4, h5⟩ := storeCells_run (P := P) b off e f vs 0 w c hb hone (by omega) (fun j _ hj => hf j (by omega))
  refine ⟨w', h1, ?_⟩
  have hV : V.sets ⟨b, off, none⟩ vs = V.put b (setObj (.cells c e f) off vs) := by simp [View.sets, hs]
  rw [hV]
  have hbs : b < V.size := V.lt _ _ hs
  refine ⟨⟨?_, fun j o hj => ?_, by rw [World.all4_outer h5]; exact hi.isIn.out⟩, ⟨by rw [h4]; exact hi.fr.size, fun j hj hn => ?_, fun x => Nat.le_trans (hi.fr.drawn x) (World.all4_drawn h5)⟩, ⟨fun i x hx => by rw [h4]; exact hi.boxes.lo i x hx, fun i x cs hx hc => ?_, hi.boxes.ne⟩⟩
  · rw [h4]; have := hi.isIn.size; simp only [View.put]; omega
  · by_cases ej : j = b
    · subst ej
      simp only [View.put, if_true] at hj
      cases hj
      exact h2
    · simp only [View.put, if_neg ej] at hj
      rw [h3 j ej]; exact hi.isIn.see j o hj
  · have h6 := hi.fr.hid j hj hn
    have hne : j ≠ b := fun ej => by rw [ej, hs] at h6; cases h6.1
    exact ⟨by simp only [View.put, if_neg hne]; exact h6.1, by rw [h3 j hne]; exact h6.2⟩
  · have h6 := hi.boxes.shut i x cs hx hc
    have hne : x.blk ≠ b := fun ej => by rw [ej, hs] at h6; cases h6.1
    exact ⟨by simp only [View.put, if_neg hne]; exact h6.1, by rw [h3 _ hne]; exact h6.2⟩
theorem lv_store [DrK] {t : TypeId} {x y : Operand} (ho : o.op = .store t x y) (hρ : ∀ x r, ρ x = some r → η x = r.val bx) (hi : Inv V0 w0 V w bx) (h : opX P wr VS bx (.store t x y) o.type ρ V C) : OpOk P V0 w0 η o bx w C := by
  simp only [opX] at h
  have hy' : ∀ v, (ρ y).bind (toV bx) = some v → η y = v := fun v hv => by
    cases hr : ρ y with
    | none => simp [hr] at hv
    | some r => rw [hρ y r hr]; rw [hr] at hv; exact toV_val hv
  have run : ∀ (a : Addr) (v : Value) (w' : World), η x = .pointer (some a) → η y = v → v.cells.size = P.cellsOf t → P.cellsOf t ≠ 0 → (storeCells a v.cells.toList).run P w = .ok () w' → (execOp η o).run P w = .ok .skip w' := fun a v w' hx hy ht hp hr => by
    simp [execOp, ho, Instr.storeAt, hx, hy, Instr.sureAddr, storeVar_run ht hp, hr]
  split at h
  · rename_i i off v hx hy
    have hη := hρ x _ hx
    split at h
    · rename_i ver blk ty cs hb
      split at h
      · rename_i hc
        obtain ⟨h1, h2, h3, h4⟩ := hc
        have hcl := hi.boxes.shut i _ cs hb rfl
        obtain ⟨w', r1, r2, r3, r4, r5⟩ := storeCells_run (P := P) blk off ty (0, 0) v.cells.toList 0 w ⟨cs⟩ hcl.2 h3 (by simpa using h2) (fun j _ _ => by simp)
        rw [putL_setObj, Nat.add_zero] at r2
        refine .skip (run ⟨blk, off, none⟩ v w' (by rw [hη]; simp [RV.val, hb]) (hy' v hy) h1 h4 r1) ⟨none, _, V, (by intro rv e; cases e), hi.setBox hb rfl r2 r3 r4 r5, BxRel.boxSet _ _ _, h⟩
      · exact h.elim
    · rename_i ver blk ty hb
      split at h
      · rename_i hc
        obtain ⟨h1, h2, h4⟩ := hc
        obtain ⟨h5, h6⟩ := h
        obtain ⟨w', r1, r2⟩ := hi.sets (P := P) (a := ⟨blk, off, none⟩) (vs := v.cells.toList) (by simpa using h5) h2
        exact .skip (run ⟨blk, off, none⟩ v w' (by rw [hη]; simp [RV.val, hb]) (hy' v hy) h1 h4 r1) ⟨none, _, _, (by intro rv e; cases e), r2, BxRel.refl _, h6⟩
      · exact h.elim
    · exact h.elim
  · rename_i a v hx hy
    have hη := hρ x _ hx
    split at h
    · rename_i hc
      obtain ⟨h1, h2, h4⟩ := hc
      obtain ⟨h5, h6⟩ := h
      obtain ⟨w', r1, r2⟩ := hi.sets (P := P) (a := a) (vs := v.cells.toList) (by simpa using h5) h2
      exact .skip (run a v w' (by rw [hη]; rfl) (hy' v hy) h1 h4 r1) ⟨none, _, _, (by intro rv e; cases e), r2, BxRel.refl _, h6⟩
    · exact h.elim
  · exact h.elim

theorem exV_spec [DrK] : ∀ (k : VK) (C : Value → Prop), exV k C → ∃ v, C v
  | .one k, C, ⟨x, h⟩ => ⟨_, h⟩
  | .agg ks, C, h => by obtain ⟨vs, _, _, h⟩ := exTy_spec ks _ h; exact ⟨_, h⟩
theorem exVs_spec [DrK] : ∀ (ks : List VK) (C : List Value → Prop), exVs ks C → ∃ vs, C vs
  | [], C, h => ⟨_, h⟩
  | k :: ks, C, h => by
    obtain ⟨v, h⟩ := exV_spec k _ h
    obtain ⟨vs, h⟩ := exVs_spec ks _ h
    exact ⟨_, h⟩
theorem exRes_spec [DrK] {t : TypeId} {C : Value → Prop} (h : exRes P t C) : ∃ v, C v := by
  unfold exRes at h
  split at h
  · split at h
    · obtain ⟨vs, h⟩ := exVs_spec _ _ h; exact ⟨_, h⟩
    · exact h.elim
  · split at h
    · exact exV_spec _ _ h
    · exact h.elim
theorem Inv.call [DrK] (hi : Inv V0 w0 V w bx) {V' : View} {w' : World} (h1 : V'.In w') (h2 : Fr V w V' w') : Inv V0 w0 V' w' bx where
  isIn := h1
  fr := hi.fr.trans h2
  boxes := ⟨fun i b hb => by have := hi.boxes.lo i b hb; have := h2.size; omega, fun i b cs hb hc => by
    have h3 := hi.boxes.shut i b cs hb hc
    have h4 := h2.hid b.blk (hi.boxes.lo i b hb).2 h3.1
    exact ⟨h4.1, h4.2.trans h3.2⟩, hi.boxes.ne⟩
theorem lv_call [DrK] {f : Operand} {args : Array Operand} {ats : Array TypeId} (ho : o.op = .call { callee := .value f, args := args, argTypes := ats }) (hρ : ∀ x r, ρ x = some r → η x = r.val bx) (hi : Inv V0 w0 V w bx)
    (h : opX P wr VS bx (.call { callee := .value f, args := args, argTypes := ats }) o.type ρ V C) : OpOk P V0 w0 η o bx w C := by
  simp only [opX] at h
  split at h
  · rename_i g fs cs vs hf hv
    have hargs : args.map η = ⟨vs⟩ := by apply Array.ext'; simpa using vals_val hρ _ _ hv
    obtain ⟨hent, hcall⟩ := h
    unfold OpOk
    have hrun : (execOp η o).run P w = .ok (.enter g ⟨fs.toList ++ vs ++ cs.toList⟩) w := by
      have e : (fs ++ args.map η) ++ cs = ⟨fs.toList ++ vs ++ cs.toList⟩ := by rw [hargs]; apply Array.ext'; simp
      simp only [execOp, ho, resolve, hρ f _ hf, RV.val, Deferred.ofValue, Sem.run_bind, Sem.run_pure, Result.andThen_ok, invoke]
      rw [e]
      exact hent _ w
    rw [hrun]
    refine (hcall w hi.isIn).mono ?_
    rintro e w' ⟨r, V', rfl, h1, h2, h3⟩
    obtain ⟨v, rfl, h4⟩ := exRes_spec h3
    exact ⟨_, rfl, _, bx, V', fun rv e => by cases e; rfl, hi.call h1 h2, BxRel.refl _, h4⟩
  · exact h.elim
theorem rowAt_run [DrK] {S : View} {a : Option Addr} {k : Nat} {cs : List Value} (h : rowAt S a k cs) (hw : S.In w) : ∀ ad, a = some ad → (loadCells ad k).run P w = .ok ⟨cs⟩ w := rowAt_runS h hw.see
/-- A new block that is seen, in whatever way the world has come to it. -/
theorem Inv.newW [DrK] (h : Inv V0 w0 V w bx) {w' : World} {ob : Obj} (hs : w'.heap.size = w.heap.size + 1) (hold : ∀ i, i < w.heap.size → w'.heap[i]? = w.heap[i]?) (hnew : w'.heap[w.heap.size]? = some ob)
    (hout : World.outer w' = World.outer w) (hdr : w.drawn ≤ w'.drawn) : Inv V0 w0 (V.put w.heap.size ob) w' bx where
  isIn := ⟨by rw [hs]; have := h.isIn.size; simp only [View.put]; omega, fun i o' hi => by
    by_cases e : i = w.heap.size
    · subst e; simp only [View.put, if_true] at hi; cases hi; exact hnew
    · simp only [View.put, if_neg e] at hi; rw [hold i (lt_of_some (h.isIn.see i o' hi))]; exact h.isIn.see i o' hi, by rw [hout]; exact h.isIn.out⟩
  fr := h.fr.trans ⟨by rw [hs]; omega, fun i hi hn => ⟨by simp only [View.put, if_neg (Nat.ne_of_lt hi)]; exact hn, hold i hi⟩, fun _ => hdr⟩
  boxes := ⟨fun i b hb => by have := h.boxes.lo i b hb; rw [hs]; omega, fun i b cs hb hc => by
    have h1 := h.boxes.shut i b cs hb hc
    have hl := lt_of_some h1.2
    exact ⟨by simp only [View.put, if_neg (Nat.ne_of_lt hl)]; exact h1.1, by rw [hold _ hl]; exact h1.2⟩, h.boxes.ne⟩
theorem Leaves.newW [DrK] (hi : Inv V0 w0 V w bx) {w' : World} {ob : Obj} {v : Value} (hs : w'.heap.size = w.heap.size + 1) (hold : ∀ i, i < w.heap.size → w'.heap[i]? = w.heap[i]?) (hnew : w'.heap[w.heap.size]? = some ob)
    (hout : World.outer w' = World.outer w) (hdr : w.drawn ≤ w'.drawn) (hc : C (some (.v v)) bx (V.put w.heap.size ob)) : Leaves V0 w0 bx C v w' :=
  ⟨_, bx, _, fun rv e => by cases e; rfl, hi.newW hs hold hnew hout hdr, BxRel.refl _, hc⟩
theorem bytesV_cells (s : ByteArray) (e : TypeId) (w : World) (n : Nat) : (⟨bytesV s ++ List.replicate n (.int .u8 0)⟩ : Array Value) = (s.data.map fun b => Value.int .u8 b.toNat) ++ Array.replicate n (.int .u8 0) := by
  apply Array.ext'
  simp [bytesV]
theorem lv_convert [DrK] {s d : TypeId} {x : Operand} (hf : floats P (.convert s d x) = false) (ho : o.op = .convert s d x) (hρ : ∀ x r, ρ x = some r → η x = r.val bx) (hi : Inv V0 w0 V w bx) (h : opX P wr VS bx (.convert s d x) o.type ρ V C) : OpOk P V0 w0 η o bx w C := by
  simp only [opX] at h
  split at h
  · rename_i k k' q n hs hd hx
    simp [floats, hs, hd] at hf
  · rename_i b hs hd hx
    simp [floats, hs, hd] at hf
  · rename_i e b hs hd hx
    split at h
    · rename_i he
      have hcap : b.size ≤ grownCap w b.size 0 e := grownCap_ge w _ _ _
      have hC := h _ hcap w.heap.size hi.isIn.size
      have hb : Lib.bytesCells w e b = ⟨bytesV b ++ List.replicate (grownCap w b.size 0 e - b.size) (.int .u8 0)⟩ := (bytesV_cells b e w _).symm
      have hsz : (Lib.bytesCells w e b).size = grownCap w b.size 0 e := by
        rw [hb]
        have : b.data.size = b.size := rfl
        simp [bytesV, this]
        omega
      refine .value (v := .slice (some ⟨w.heap.size, 0, none⟩) b.size (grownCap w b.size 0 e)) (w' := Lib.bytesWorld w e b) ?_ (Leaves.newW hi (Lib.bytesWorld_size w e b) (fun i hi => Lib.bytesWorld_at_old w e b i hi) (Lib.bytesWorld_at_new w e b) rfl (Nat.le_succ w.drawn) ?_)
      · simp [execOp, ho, hρ x _ hx, RV.val, Lib.run_convert_string_bytes w s d e b hs hd he]
      · rw [hsz, hb]; exact hC
    · exact h.elim
  · rename_i e a n c hs hd hx
    simp [floats, hs, hd] at hf
  · rename_i e' e r off n c hs hd hx
    split at h
    · rename_i hsd he
      obtain ⟨cs, te, hsee, hC⟩ := h
      have hsd : s = d := Nat.eq_of_beq_eq_true hsd
      have hb := hi.isIn.see _ _ hsee
      have hsh : w.shape? r = some (te, cs.size) := by unfold World.shape?; rw [hb]
      have hfr : w.freeze ⟨r, cs.size, none⟩ 1 = World.withO w r (.cells cs te (cs.size, cs.size + 1)) := by
        unfold World.freeze World.withO
        rw [if_neg (by decide)]
        congr 1
        apply Array.ext
        · simp
        · intro j h1 h2
          have hj : j < w.heap.size := by simpa using h1
          by_cases e1 : r = j
          · subst e1
            have : w.heap[r] = .cells cs te (0, 0) := by rw [Array.getElem?_eq_getElem hj] at hb; exact Option.some.inj hb
            simp [Array.getElem_modify, this]
          · rw [Array.getElem_modify, if_neg e1]
            have h5 : (w.heap.setIfInBounds r (.cells cs te (cs.size, cs.size + 1)))[j]? = w.heap[j]? := by rw [Array.getElem?_setIfInBounds, if_neg e1]
            rw [Array.getElem?_eq_getElem h2, Array.getElem?_eq_getElem hj] at h5
            exact (Option.some.inj h5).symm
      refine .value (v := .slice (some ⟨r, off, none⟩) n c) (w' := World.withO w r (.cells cs te (cs.size, cs.size + 1))) ?_ (Leaves.setO hi hsee (fun rv e1 => by cases e1; rfl) hC)
      rw [← hfr]
      simp [execOp, ho, hρ x _ hx, RV.val, convert, run_underlying hs, run_underlying hd, run_underlying he, markStringish, hsh, hsd]
    · exact h.elim
  · exact h.elim

theorem srcAt_run [DrK] {S : View} {size : Nat} {zero : List Value} {y : Value} {m : Nat} {cs : List Value} (hny : ∀ q n, y ≠ .int q n) (h : srcAt S size zero y m cs) (hw : S.In w) (k : Nat) (hk : k ≤ m) :
    (Builtin.lenOf y).run P w = .ok m w ∧ ((∃ b c, y = .slice (some b) m c) → (Builtin.firstCells size m y).run P w = .ok ⟨cs⟩ w) ∧ (Builtin.firstCells size m y).run P w = .ok ⟨cs⟩ w := by
  cases y <;> simp only [srcAt] at h
  case int q n => exact absurd rfl (hny q n)
  case slice b m' c =>
    obtain ⟨rfl, hr⟩ := h
    have : (Builtin.firstCells size m (.slice b m c)).run P w = .ok ⟨cs⟩ w := by
      cases b with
      | none => simp only [rowAt] at hr; subst hr; rfl
      | some a => exact rowAt_run hr hw a rfl
    exact ⟨rfl, fun _ => this, this⟩
  case string s =>
    obtain ⟨rfl, rfl⟩ := h
    have : (Builtin.firstCells size s.size (.string s)).run P w = .ok ⟨bytesV s⟩ w := by
      simp only [Builtin.firstCells, Sem.run_pure]
      congr 1
      apply Array.ext'
      simp only [bytesV, Array.toList_map]
      congr 1
      have : s.extract 0 s.size = s := by
        cases s with
        | mk d => simp [ByteArray.extract, ByteArray.copySlice, ByteArray.size]
      rw [this]
    exact ⟨rfl, fun _ => this, this⟩
theorem rowCells_run [DrK] {S : View} {a : Option Addr} {size n c : Nat} {cs : List Value} (h : rowAt S a (n * size) cs) (hw : S.In w) : (Builtin.firstCells size n (.slice a n c)).run P w = .ok ⟨cs⟩ w := by
  cases a with
  | none => simp only [rowAt] at h; subst h; rfl
  | some a => exact rowAt_run h hw a rfl
set_option maxHeartbeats 1000000 in
/-- What 'append' comes to, room or none. -/
theorem append_run [DrK] {ats : Array TypeId} {t t2 el ty : TypeId} {d2 : TypeDesc} (et : ats[0]? = some t) (et2 : ats[1]? = some t2) (hu : P.underlying t = some (.slice el)) (hu2 : P.underlying t2 = some d2) (hni : d2 = .string ∨ ∃ e2, d2 = .slice e2)
    {i : TypeInfo} {zv : Value} (hi : P.info? el = some i) (hz : i.zero = some zv) (a : Option Addr) (n c m : Nat) (y : Value) (src old : List Value)
    (h1 : (Builtin.lenOf y).run P w = .ok m w) (h2 : ∀ w', World.outer w' = World.outer w → w'.heap = w.heap → (Builtin.firstCells i.size m y).run P w' = .ok ⟨src⟩ w')
    (h3 : ∀ w', World.outer w' = World.outer w → w'.heap = w.heap → (Builtin.firstCells i.size n (.slice a n c)).run P w' = .ok ⟨old⟩ w') (hb0 : 0 < i.bytes) (hb : (n + m) * i.bytes ≤ 140737488355328) :
    (n + m ≤ c → (Builtin.append_ ats ty #[.slice a n c, y]).run P w = ((match a with
      | some a => storeCells (a.add (n * i.size)) src
      | none => pure ()) >>= fun _ => (pure (.slice a (n + m) c) : Sem Value)).run P w) ∧
    (c < n + m → (Builtin.append_ ats ty #[.slice a n c, y]).run P w = .ok (.slice (some ⟨w.heap.size, 0, none⟩) (n + m) (grownCap w (n + m) c el))
      (w.drew.alloc (.cells (⟨old⟩ ++ ⟨src⟩ ++ Builtin.zeroCells zv.cells (grownCap w (n + m) c el - (n + m))) el))) := by
  have hh2 := h2 w rfl rfl
  have hh2d := h2 w.drew rfl rfl
  have hh3d := h3 w.drew rfl rfl
  constructor
  · intro hle
    rcases hni with rfl | ⟨e2, rfl⟩ <;> cases a <;> simp [Builtin.append_, et, et2, run_underlying hu, run_underlying hu2, sizeOf, typeInfo, hi, h1, hh2, hle]
  · intro hlt
    have hn : ¬ (n + m ≤ c) := by omega
    have h63' : ¬ (9223372036854775807 < ((n : Int) + (m : Int))) := by
      have : (n + m) * 1 ≤ (n + m) * i.bytes := Nat.mul_le_mul_left _ hb0
      omega
    have h48' : ¬ (281474976710656 < Builtin.nextslicecap (n + m) c * i.bytes) := by have := growslice_fits hlt hb; omega
    rcases hni with rfl | ⟨e2, rfl⟩ <;> simp [Builtin.append_, et, et2, run_underlying hu, run_underlying hu2, sizeOf, typeInfo, zeroValue, hi, hz, h1, hn, h63', h48', Question.forced, hh2d, hh3d, newRow, grownCap] <;> (congr 2; apply Array.ext'; simp [List.append_assoc])
set_option maxHeartbeats 1000000 in
/-- What 'append' of so many noughts comes to. -/
theorem append_zeros_run [DrK] {ats : Array TypeId} {t t2 el ty : TypeId} {kd : IntKind} (et : ats[0]? = some t) (et2 : ats[1]? = some t2) (hu : P.underlying t = some (.slice el)) (hu2 : P.underlying t2 = some (.int kd))
    {i : TypeInfo} {zv : Value} (hi : P.info? el = some i) (hz : i.zero = some zv) (hzl : zv.cells.size = i.size) (a : Option Addr) (n c : Nat) (q : IntKind) (y : Int) (hy : 0 ≤ y) (old : List Value)
    (h3 : ∀ w', World.outer w' = World.outer w → w'.heap = w.heap → (Builtin.firstCells i.size n (.slice a n c)).run P w' = .ok ⟨old⟩ w') (hb0 : 0 < i.bytes) (hb : (n + y.toNat) * i.bytes ≤ 140737488355328) :
    (n + y.toNat ≤ c → (Builtin.append_ ats ty #[.slice a n c, .int q y]).run P w = ((match a with
      | some a => storeCells (a.add (n * i.size)) (List.replicate y.toNat zv.cells.toList).flatten
      | none => pure ()) >>= fun _ => (pure (.slice a (n + y.toNat) c) : Sem Value)).run P w) ∧
    (c < n + y.toNat → (Builtin.append_ ats ty #[.slice a n c, .int q y]).run P w = .ok (.slice (some ⟨w.heap.size, 0, none⟩) (n + y.toNat) (grownCap w (n + y.toNat) c el))
      (w.drew.alloc (.cells (⟨old⟩ ++ ⟨(List.replicate y.toNat zv.cells.toList).flatten⟩ ++ Builtin.zeroCells zv.cells (grownCap w (n + y.toNat) c el - (n + y.toNat))) el))) := by
  obtain ⟨m, rfl⟩ : ∃ m : Nat, y = m := ⟨y.toNat, by omega⟩
  simp only [Int.toNat_natCast] at *
  have hm1 : m * 1 ≤ m * i.bytes := Nat.mul_le_mul_left _ hb0
  have hm2 : m * i.bytes ≤ (n + m) * i.bytes := Nat.mul_le_mul_right _ (by omega)
  have hwr : IntKind.i64.wrap (m : Int) = m := by
    unfold IntKind.wrap
    simp [IntKind.signed, IntKind.bits]
    omega
  have hneg : ¬ ((m : Int) < 0) := by omega
  have h48 : ¬ ((281474976710656 : Int) < (m : Int) * (i.bytes : Int)) := by
    have : ((m * i.bytes : Nat) : Int) ≤ 140737488355328 := by omega
    rw [Int.natCast_mul] at this
    omega
  have hsrc : Builtin.zeroCells zv.cells m = ⟨(List.replicate m zv.cells.toList).flatten⟩ := by
    by_cases hz0 : zv.cells.size = 0
    · have : zv.cells = #[] := Array.eq_empty_of_size_eq_zero hz0
      rw [this]
      simp [Builtin.zeroCells, range0]
    · unfold Builtin.zeroCells
      exact cyc_arr zv.cells m (Nat.pos_of_ne_zero hz0)
  have hh3d := h3 w.drew rfl rfl
  have hnil : m * i.size = 0 → (List.replicate m zv.cells.toList).flatten = [] := fun h0 => by
    rw [← List.length_eq_zero_iff, flat_len, Array.length_toList, hzl]; exact h0
  constructor
  · intro hle
    by_cases h0 : m * i.size = 0
    · rw [hnil h0]
      cases a <;> simp [Builtin.append_, et, et2, run_underlying hu, run_underlying hu2, sizeOf, typeInfo, hi, hle, asInt, asIntOf, hwr, hneg, h48, h0]
    · cases a <;> simp [Builtin.append_, et, et2, run_underlying hu, run_underlying hu2, sizeOf, typeInfo, hi, hle, asInt, asIntOf, hwr, hneg, h48, h0, zeroValue, hz, hsrc]
  · intro hlt
    have hn : ¬ (n + m ≤ c) := by omega
    have h63' : ¬ (9223372036854775807 < ((n : Int) + (m : Int))) := by
      have : (n + m) * 1 ≤ (n + m) * i.bytes := Nat.mul_le_mul_left _ hb0
      omega
    have h48' : ¬ (281474976710656 < Builtin.nextslicecap (n + m) c * i.bytes) := by have := growslice_fits hlt hb; omega
    by_cases h0 : m * i.size = 0
    · rw [hnil h0]
      simp [Builtin.append_, et, et2, run_underlying hu, run_underlying hu2, sizeOf, typeInfo, hi, hn, h63', h48', Question.forced, hh3d, newRow, grownCap, asInt, asIntOf, hwr, hneg, h48, h0, zeroValue, hz] <;> (congr 2; apply Array.ext'; simp [List.append_assoc])
    · simp [Builtin.append_, et, et2, run_underlying hu, run_underlying hu2, sizeOf, typeInfo, hi, hn, h63', h48', Question.forced, hh3d, newRow, grownCap, asInt, asIntOf, hwr, hneg, h48, h0, zeroValue, hz, hsrc] <;> (congr 2; apply Array.ext'; simp [List.append_assoc])
theorem lv_builtin [DrK] {b : Builtin} {args : Array Operand} {ats : Array TypeId} (hf : floats P (.call { callee := .builtin b, args := args, argTypes := ats }) = false) (ho : o.op = .call { callee := .builtin b, args := args, argTypes := ats })
    (hρ : ∀ x r, ρ x = some r → η x = r.val bx) (hi : Inv V0 w0 V w bx) (h : opX P wr VS bx (.call { callee := .builtin b, args := args, argTypes := ats }) o.type ρ V C) : OpOk P V0 w0 η o bx w C := by
  have hargs : ∀ vs, vals bx ρ args.toList = some vs → args.map η = ⟨vs⟩ := fun vs hv => by
    apply Array.ext'; simpa using vals_val hρ _ _ hv
  have run : ∀ (vs : List Value) (v : Value) (w' : World), args.map η = ⟨vs⟩ → (builtin b ats o.type (args.map fun | .const _ => true | _ => false) ⟨vs⟩).run P w = .ok (.value v) w' → (execOp η o).run P w = .ok (.value v) w' := fun vs v w' e hr => by
    simp only [execOp, ho, resolve, e]
    exact hr
  simp only [opX] at h
  split at h
  · rename_i t ts x hts hv
    have e := hargs _ hv
    have et : ats[0]? = some t := by rw [← Array.getElem?_toList, hts]; rfl
    split at h
    · rename_i s hu
      simp [floats, et, hu] at hf
    · rename_i el a n c hu
      simp [floats, et, hu] at hf
    · rename_i k el hu
      exact .value (run _ _ w e (by simp [builtin, Builtin.len_, et, run_underlying hu, goInt])) (Leaves.same hi h)
    · rename_i k el r hu
      obtain ⟨es, cl, hs, hC⟩ := h
      have hb := hi.isIn.see _ _ hs
      refine .value (run _ (.int .i64 es.size) w e ?_) (Leaves.same hi hC)
      simp [builtin, Builtin.len_, et, run_underlying hu, goInt, getObj, Sem.run, hb]
    · exact h.elim
  · rename_i t ts x hts hv
    have et : ats[0]? = some t := by rw [← Array.getElem?_toList, hts]; rfl
    split at h
    · rename_i el a n c hu
      simp [floats, et, hu] at hf
    · exact h.elim
  · simp [floats] at hf
  · simp [floats] at hf
  · rename_i t t2 ts a n c y hts hv
    have e := hargs _ hv
    have et : ats[0]? = some t := by rw [← Array.getElem?_toList, hts]; rfl
    have et2 : ats[1]? = some t2 := by rw [← Array.getElem?_toList, hts]; rfl
    split at h
    · rename_i a1 a2 el hel hd2
      have hu := elemX_spec hel
      have hkind : (∃ d2, P.underlying t2 = some d2 ∧ (d2 = .string ∨ ∃ e2, d2 = .slice e2) ∧ ∀ q k, y ≠ .int q k) ∨ ∃ kd q k, P.underlying t2 = some (.int kd) ∧ y = .int q k := by
        split at hd2
        · cases hd2
        · cases hd2
        · rename_i e2 h2 hn; exact .inl ⟨_, h2, .inr ⟨_, rfl⟩, fun q k e => hn q k e⟩
        · rename_i h2 hn; exact .inl ⟨_, h2, .inl rfl, fun q k e => hn q k e⟩
        · rename_i kd q k h3; exact .inr ⟨kd, q, k, h3, rfl⟩
        · cases hd2
      split at h
      · rename_i z size bytes hinfo
        obtain ⟨i, zv, hi', hz, hzc, hsz, hby⟩ := infoX_spec hinfo
        split at h
        · rename_i hzl
          obtain ⟨hzl, hb0⟩ := hzl
          obtain ⟨old, src, m, h1, h2, hone, h3, h4, h5, h6⟩ := h
          subst hsz
          subst hby
          have hin : ∀ w' : World, World.outer w' = World.outer w → w'.heap = w.heap → V.In w' := fun w' ho' hh' => ⟨by rw [hh']; exact hi.isIn.size, fun j o hj => by rw [hh']; exact hi.isIn.see j o hj, ho'.trans hi.isIn.out⟩
          have key : (n + m ≤ c → (Builtin.append_ ats o.type #[.slice a n c, y]).run P w = ((match a with
              | some a => storeCells (a.add (n * i.size)) src
              | none => pure ()) >>= fun _ => (pure (.slice a (n + m) c) : Sem Value)).run P w) ∧
            (c < n + m → (Builtin.append_ ats o.type #[.slice a n c, y]).run P w = .ok (.slice (some ⟨w.heap.size, 0, none⟩) (n + m) (grownCap w (n + m) c el))
              (w.drew.alloc (.cells (⟨old⟩ ++ ⟨src⟩ ++ Builtin.zeroCells zv.cells (grownCap w (n + m) c el - (n + m))) el))) := by
            rcases hkind with ⟨d2, hu2, hni, hny⟩ | ⟨kd, q, k, hu2, rfl⟩
            · exact append_run (P := P) (w := w) (ty := o.type) et et2 hu hu2 hni hi' hz a n c m y src old (srcAt_run hny h2 hi.isIn m (Nat.le_refl _)).1 (fun w' ho' hh' => (srcAt_run hny h2 (hin w' ho' hh') m (Nat.le_refl _)).2.2) (fun w' ho' hh' => rowCells_run h1 (hin w' ho' hh')) hb0 h3
            · obtain ⟨hk0, rfl, rfl⟩ := h2
              have hzz : zv.cells.toList = z := by rw [hzc]
              have := append_zeros_run (P := P) (w := w) (ty := o.type) et et2 hu hu2 hi' hz (by rw [← Array.length_toList, hzz]; exact hzl) a n c q k hk0 old (fun w' ho' hh' => rowCells_run h1 (hin w' ho' hh')) hb0 h3
              rw [hzz] at this
              exact this
          rcases Nat.lt_or_ge c (n + m) with hlt | hge
          · have hC := h6 hlt w.heap.size (grownCap w (n + m) c el) hi.isIn.size (grownCap_ge _ _ _ _)
            let w1 : World := w.drew
            have hi1 : Inv V0 w0 V w1 bx := ⟨⟨hi.isIn.size, hi.isIn.see, hi.isIn.out⟩, ⟨hi.fr.size, hi.fr.hid, fun x => Nat.le_trans (hi.fr.drawn x) (Nat.le_succ _)⟩, ⟨hi.boxes.lo, hi.boxes.shut, hi.boxes.ne⟩⟩
            refine .value (run _ _ _ e ?_) (Leaves.newB hi1 (ob := .cells (old ++ src ++ (List.replicate (grownCap w (n + m) c el - (n + m)) z).flatten).toArray el (0, 0)) hC)
            have hkey := key.2 hlt
            have harr : (⟨old⟩ ++ ⟨src⟩ ++ Builtin.zeroCells zv.cells (grownCap w (n + m) c el - (n + m)) : Array Value) = (old ++ src ++ (List.replicate (grownCap w (n + m) c el - (n + m)) z).flatten).toArray := by
              have hz2 : Builtin.zeroCells zv.cells (grownCap w (n + m) c el - (n + m)) = ⟨(List.replicate (grownCap w (n + m) c el - (n + m)) z).flatten⟩ := by
                rw [hzc]
                unfold Builtin.zeroCells
                by_cases hz0 : z.length = 0
                · have : z = [] := List.eq_nil_of_length_eq_zero hz0
                  subst this
                  simp [range0]
                · exact cyc_arr ⟨z⟩ _ (by simpa using Nat.pos_of_ne_zero hz0)
              rw [hz2]
              apply Array.ext'
              simp
            rw [harr] at hkey
            simp only [builtin, Sem.run_bind, hkey, Result.andThen_ok, Sem.run_pure]
            rfl
          · have hkey := key.1 hge
            have h7 := h5 hge
            cases a with
            | none =>
              refine .value (run _ (.slice none (n + m) c) w e ?_) (Leaves.same hi h7)
              simp only [builtin, Sem.run_bind, hkey, Result.andThen_ok, Sem.run_pure]
            | some ad =>
              obtain ⟨h8, h9⟩ := h7
              obtain ⟨w', r1, r2⟩ := hi.sets (P := P) h8 hone
              refine .value (run _ (.slice (some ad) (n + m) c) w' e ?_) ⟨_, bx, _, fun rv e => by cases e; rfl, r2, BxRel.refl _, h9⟩
              simp only [builtin, Sem.run_bind, hkey, r1, Result.andThen_ok, Sem.run_pure]
        · exact h.elim
      · exact h.elim
    · exact h.elim
  · rename_i t ts m k hts hv
    have e := hargs _ hv
    have et : ats[0]? = some t := by rw [← Array.getElem?_toList, hts]; rfl
    split at h
    · rename_i kt el hu
      split at h
      · rename_i hf
        obtain ⟨w', V', h1, h2, h3⟩ := mapD_run (ty := o.type) et hu hf h.1 hi h.2
        refine .value (run _ (.tuple ⟨[]⟩) w' e ?_) ⟨_, bx, V', fun rv e => by cases e; rfl, h2, BxRel.refl _, h3⟩
        simp only [builtin, Sem.run_bind, h1, Result.andThen_ok, Sem.run_pure]
      · exact h.elim
    · exact h.elim
  · rename_i t ts a n c hts hv
    have e := hargs _ hv
    have et : ats[0]? = some t := by rw [← Array.getElem?_toList, hts]; rfl
    split at h
    · rename_i el hel
      have hu := elemX_spec hel
      split at h
      · rename_i z size bytes hinfo
        obtain ⟨i, zv, hi', hz, hzc, hsz, hby⟩ := infoX_spec hinfo
        obtain ⟨hA, hB⟩ := h
        cases n with
        | zero =>
          refine .value (run _ (.tuple #[]) w e ?_) (Leaves.same hi (hA rfl))
          cases a <;> simp [builtin, Builtin.clear_, et, run_underlying hu]
        | succ n =>
          have hB := hB (Nat.succ_pos n)
          cases a with
          | none =>
            refine .value (run _ (.tuple #[]) w e ?_) (Leaves.same hi hB)
            simp [builtin, Builtin.clear_, et, run_underlying hu]
          | some ad =>
            obtain ⟨hone, h8, h9⟩ := hB
            obtain ⟨w', r1, r2⟩ := hi.sets (P := P) h8 hone
            refine .value (run _ (.tuple #[]) w' e ?_) ⟨_, bx, _, fun rv e => by cases e; rfl, r2, BxRel.refl _, h9⟩
            have hzz : (Builtin.zeroCells zv.cells (n + 1)).toList = (List.replicate (n + 1) z).flatten := by
              have hz2 : Builtin.zeroCells zv.cells (n + 1) = ⟨(List.replicate (n + 1) z).flatten⟩ := by
                rw [hzc]
                unfold Builtin.zeroCells
                by_cases hz0 : z.length = 0
                · have : z = [] := List.eq_nil_of_length_eq_zero hz0
                  subst this
                  simp [range0]
                · exact cyc_arr ⟨z⟩ _ (by simpa using Nat.pos_of_ne_zero hz0)
              rw [hz2]
            simp [builtin, Builtin.clear_, et, run_underlying hu, zeroValue_run hi' hz, hzz, r1]
      · exact h.elim
    · exact h.elim
  · rename_i t ts a n c b m c' hts hv
    have e := hargs _ hv
    have et : ats[0]? = some t := by rw [← Array.getElem?_toList, hts]; rfl
    split at h
    · rename_i el hel
      have hu := elemX_spec hel
      split at h
      · exact h.elim
      · rename_i hne
        obtain ⟨src, h1, hone, h2⟩ := h
        have hfc : (Builtin.firstCells (P.cellsOf el) (min m n) (.slice b m c')).run P w = .ok ⟨src⟩ w := by
          cases b with
          | none => simp only [rowAt] at h1; subst h1; rfl
          | some ad => exact rowAt_run h1 hi.isIn ad rfl
        have hmin : Nat.min m n = min m n := rfl
        cases a with
        | none =>
          obtain ⟨rfl, hC⟩ := h2
          refine .value (run _ (.int .i64 (min m n : Nat)) w e ?_) (Leaves.same hi hC)
          simp [builtin, Builtin.copy_, et, run_underlying hu, Builtin.lenOf, run_sizeOf_pos hne, hmin, hfc, goInt]
        | some ad =>
          obtain ⟨h8, h9⟩ := h2
          obtain ⟨w', r1, r2⟩ := hi.sets (P := P) h8 hone
          refine .value (run _ (.int .i64 (min m n : Nat)) w' e ?_) ⟨_, bx, _, fun rv e => by cases e; rfl, r2, BxRel.refl _, h9⟩
          simp [builtin, Builtin.copy_, et, run_underlying hu, Builtin.lenOf, run_sizeOf_pos hne, hmin, hfc, goInt, r1]
    · exact h.elim
  · exact h.elim
end
end Go.Proofs.YtgkmcnafkhdlnaaGreat
