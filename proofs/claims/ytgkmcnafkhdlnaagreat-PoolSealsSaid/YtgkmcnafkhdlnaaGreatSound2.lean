/- The executor of YtgkmcnafkhdlnaaGreatCore is right: operations that float. -/
import Derived.Test.YtgkmcnafkhdlnaaGreatSoundK
import Derived.Lib.ConvBytes
import Derived.Laws.BytesString
set_option linter.unusedSimpArgs false
set_option linter.unusedVariables false
namespace Go.Proofs.YtgkmcnafkhdlnaaGreat
open Go Go.RowKit
section
variable {P : Program}

theorem ari_spec {wr : Bool} {k : IntKind} {n : Int} {C : Value → Prop} (h : ari wr k n C) : C (.int k (k.wrap n)) := by
  unfold ari at h
  split at h
  · rw [show IntKind.i64.wrap n = n by
      have := h.1
      simp only [inI, IntKind.min, IntKind.max, IntKind.signed, IntKind.bits] at this
      simp only [IntKind.wrap, IntKind.signed, IntKind.bits] at *
      simp at *
      omega]
    exact h.2
  · exact h
theorem kk_spec {k k' : IntKind} {p : Prop} (h : kk k k' p) : k = k' ∧ p := by
  unfold kk at h
  split at h
  · rename_i e; exact ⟨of_decide_eq_true e, h⟩
  · exact h.elim
theorem bytesLess_irr : ∀ (l : List UInt8), Op.bytesLess l l = false
  | [] => rfl
  | a :: l => by simp [Op.bytesLess, bytesLess_irr l]
theorem bytesLess_tri : ∀ (l m : List UInt8), (Op.bytesLess l m || l == m) = !Op.bytesLess m l
  | [], [] => rfl
  | [], _ :: _ => rfl
  | _ :: _, [] => rfl
  | a :: l, b :: m => by
    have ih := bytesLess_tri l m
    simp only [Op.bytesLess, List.cons_beq_cons]
    by_cases h1 : a < b
    · have h2 : ¬ b < a := by rw [UInt8.lt_iff_toNat_lt] at *; omega
      have h3 : (b == a) = false := by rw [beq_eq_false_iff_ne]; rintro rfl; exact h2 h1
      simp [h1, h2, h3]
    · by_cases h2 : b < a
      · have h3 : (a == b) = false := by rw [beq_eq_false_iff_ne]; rintro rfl; exact h1 h2
        simp [h1, h2, h3]
      · have h3 : a = b := by
          apply UInt8.toNat_inj.1
          rw [UInt8.lt_iff_toNat_lt] at h1 h2
          omega
        subst h3
        simp [h1]
        simpa using ih
theorem binX_run [DrK] {wr : Bool} {op : BinOp} {t : TypeId} {x y : Value} {C : Value → Prop} (h : binX wr op x y C) :
    ∃ v, (∀ w, (binOp op t x y).run P w = .ok v w) ∧ (∀ (a b : Operand) w, (eqGuard op t a b x y).run P w = .ok () w) ∧ C v := by
  unfold binX at h
  split at h <;> first
    | (obtain ⟨e, h2⟩ := kk_spec h; subst e; clear h
       refine ⟨_, ?_, ?_, ari_spec h2⟩
       · intro w; simp [binOp, Op.intArith]
       · intro a b w; simp [eqGuard]; done)
    | (obtain ⟨e, h2⟩ := kk_spec h; subst e; clear h
       refine ⟨_, ?_, ?_, ari_spec h2.2⟩
       · intro w; simp [binOp, Op.intDiv, h2.1]
       · intro a b w; simp [eqGuard]; done)
    | (obtain ⟨e, h2⟩ := kk_spec h; subst e; clear h
       refine ⟨_, ?_, ?_, h2.2⟩
       · intro w; simp [binOp, Op.intDiv, h2.1]
       · intro a b w; simp [eqGuard]; done)
    | (obtain ⟨e, h2⟩ := kk_spec h; subst e; clear h
       refine ⟨_, ?_, ?_, h2⟩
       · intro w; simp [binOp, Op.intBits, bitsI, Op.intCmp]
       · intro a b w; simp [eqGuard]; done)
    | (obtain ⟨e, h2⟩ := kk_spec h; subst e; clear h
       refine ⟨_, ?_, ?_, h2⟩
       · intro w; simp [binOp, Op.intCmp]; rfl
       · intro a b w; simp [eqGuard]; done)
    | (refine ⟨_, ?_, ?_, ari_spec h.2⟩
       · intro w; simp only [binOp, Op.shift]; rw [if_neg (Int.not_lt.2 h.1)]; rfl
       · intro a b w; simp [eqGuard]; done)
    | (refine ⟨_, ?_, ?_, h.2⟩
       · intro w; simp only [binOp, Op.shift]; rw [if_neg (Int.not_lt.2 h.1)]; rfl
       · intro a b w; simp [eqGuard]; done)
    | (refine ⟨_, ?_, ?_, h.2⟩
       · intro w
         simp only [binOp, Op.stringOp]
         rw [if_neg]
         · rfl
         · have := h.1
           simp only [IntKind.max, IntKind.signed, IntKind.bits]
           simp
           omega
       · intro a b w; simp [eqGuard]; done)
    | (refine ⟨_, ?_, ?_, h⟩
       · intro w; simp only [binOp, Op.stringOp, str_beq, Sem.run_pure]
       · intro a b w; simp [eqGuard]; done)
    | (refine ⟨_, ?_, ?_, h⟩
       · intro w; simp only [binOp, Op.stringOp, toList_data, sLess, bytesLess_tri, Sem.run_pure, Bool.not_not]
       · intro a b w; simp [eqGuard]; done)
    | exact h.elim
    | trace_state

def eqNow : TypeDesc → Value → Value → Option Bool
  | .bool, .bool a, .bool b => some (a == b)
  | .pointer _, .pointer none, .pointer b => some b.isNone
  | .pointer _, .pointer (some _), .pointer none => some false
  | .slice _, .slice none _ _, .slice b _ _ => some b.isNone
  | .slice _, .slice (some _) _ _, .slice none _ _ => some false
  | .map _ _, .map none, .map b => some b.isNone
  | .map _ _, .map (some _), .map none => some false
  | _, _, _ => none
theorem equal_run0 [DrK] {t : TypeId} {d : TypeDesc} (hu : P.underlying t = some d) (x y : Value) (w : World) (r : Bool) (h : eqNow d x y = some r) :
    (Op.equal t x y).run P w = .ok r w := by
  show (Op.equalIn (9999 + 1) t x y).run P w = _
  unfold Op.equalIn
  rw [Sem.run_bind, run_underlying hu, Result.andThen_ok]
  clear hu
  unfold eqNow at h
  split at h <;> first
    | (cases h; rfl)
    | cases h
theorem eqX_run [DrK] {wr : Bool} {op : BinOp} (hop : op = .eql ∨ op = .neq) {t : TypeId} {x y : Value} {C : Value → Prop} (h : eqX P wr op t x y C) (a b : Operand) :
    ∃ v, (∀ w, (do eqGuard op t a b x y; binOp op t x y : Sem Value).run P w = .ok v w) ∧ C v := by
  have fin : ∀ {r : Bool}, (∀ w, (eqGuard op t a b x y).run P w = .ok () w) → (∀ w, (Op.equal t x y).run P w = .ok r w) →
      (binOp .eql t x y = (do pure (.bool (← Op.equal t x y)) : Sem Value)) → (binOp .neq t x y = (do pure (.bool (!(← Op.equal t x y))) : Sem Value)) →
      C (.bool (negB op r)) → ∃ v, (∀ w, (do eqGuard op t a b x y; binOp op t x y : Sem Value).run P w = .ok v w) ∧ C v := by
    intro r h1 h2 h3 h4 h5
    refine ⟨_, fun w => ?_, h5⟩
    rcases hop with rfl | rfl
    · simp only [Sem.run_bind, h1, Result.andThen, h3, h2, Sem.run_pure]; rfl
    · simp only [Sem.run_bind, h1, Result.andThen, h4, h2, Sem.run_pure]; rfl
  unfold eqX at h
  split at h
  · obtain ⟨v, h1, h2, h3⟩ := binX_run (P := P) (t := t) h
    exact ⟨v, fun w => by simp only [Sem.run_bind, h2, Result.andThen, h1], h3⟩
  · obtain ⟨v, h1, h2, h3⟩ := binX_run (P := P) (t := t) h
    exact ⟨v, fun w => by simp only [Sem.run_bind, h2, Result.andThen, h1], h3⟩
  · rename_i n1 n2
    clear n1 n2
    split at h
    · rename_i r hr
      unfold nilX at hr
      split at hr
      · rename_i e p hu
        cases hr
        refine fin ?_ ?_ rfl rfl h
        · rcases hop with rfl | rfl <;> intro w <;> rfl
        · intro w; refine equal_run0 hu _ _ w _ ?_; cases p <;> rfl
      · rename_i e p n c m k hu
        cases hr
        refine fin ?_ ?_ rfl rfl h
        · rcases hop with rfl | rfl <;> intro w <;> rfl
        · intro w; refine equal_run0 hu _ _ w _ ?_; cases p <;> rfl
      · rename_i e p q hu
        cases hr
        refine fin ?_ ?_ rfl rfl h
        · rcases hop with rfl | rfl <;> intro w <;> rfl
        · intro w; refine equal_run0 hu _ _ w _ ?_; cases q <;> rfl
      · cases hr
    · unfold eqlX at h
      split at h
      · obtain ⟨ho, h⟩ := h
        split at h
        · rename_i r hr
          obtain ⟨hm, hg⟩ := eqOk_spec ho
          refine fin (r := r) ?_ (fun w => eqC_run 6 10000 t _ _ r 6 hm hr (by decide) w) rfl rfl h
          intro w
          rcases hop with rfl | rfl
          · simp [eqGuard, hg]
          · simp [eqGuard, hg]
        · exact h.elim
      · rename_i c d _
        split at h
        · rename_i hu
          refine fin (r := c == d) ?_ ?_ rfl rfl ?_
          · rcases hop with rfl | rfl <;> intro w <;> rfl
          · exact fun w => equal_run0 hu _ _ w _ rfl
          · rcases hop with rfl | rfl <;> exact h
        · exact h.elim
      · exact h.elim

theorem minX_run [DrK] {mx : Bool} : ∀ (r : List Value) (x : Value) (C : Value → Prop), minX mx x r C →
    ∃ v : Value, (∀ w : World, (List.foldlM (bif mx then Builtin.max2 else Builtin.min2) x r : Sem Value).run P w = .ok v w) ∧ C v
  | [], x, C, h => ⟨x, fun w => by simp, by simpa [minX] using h⟩
  | y :: r, x, C, h => by
    unfold minX at h
    split at h
    · rename_i heq
      cases heq
    · rename_i k a k' b r' heq
      cases heq
      obtain ⟨e, h2⟩ := kk_spec h
      subst e
      obtain ⟨v, h3, h4⟩ := minX_run r _ _ h2
      refine ⟨v, fun w => ?_, h4⟩
      cases mx
      · simp only [List.foldlM_cons, Sem.run_bind, cond_false, Builtin.min2, Sem.run_pure, Result.andThen]; exact h3 w
      · simp only [List.foldlM_cons, Sem.run_bind, cond_true, Builtin.max2, Sem.run_pure, Result.andThen]; exact h3 w
    · exact h.elim

/-- The rest of 'opX_float': an operation of this kind yields v in every good world. -/
def FloatOk (P : Program) (bx : List Box) (S : View) (η : Operand → Value) (o : Oper) (V : View) (C : Option RV → List Box → View → Prop) : Prop :=
  ∃ v r, (∀ w, (isLoad P o.op = true → Good S bx w) → (execOp η o).run P w = .ok (.value v) w) ∧ (∀ rv, r = some rv → rv.val bx = v) ∧ C r bx V
theorem FloatOk.one {bx : List Box} {S V : View} {η : Operand → Value} {o : Oper} {C : Option RV → List Box → View → Prop} {v : Value}
    (h : ∀ w, (isLoad P o.op = true → Good S bx w) → (execOp η o).run P w = .ok (.value v) w) (hc : C (some (.v v)) bx V) : FloatOk P bx S η o V C :=
  ⟨v, _, h, fun rv e => by cases e; rfl, hc⟩
theorem FloatOk.rv {bx : List Box} {S V : View} {η : Operand → Value} {o : Oper} {C : Option RV → List Box → View → Prop} {r : RV}
    (h : ∀ w, (isLoad P o.op = true → Good S bx w) → (execOp η o).run P w = .ok (.value (r.val bx)) w) (hc : C (some r) bx V) : FloatOk P bx S η o V C :=
  ⟨_, _, h, fun rv e => by cases e; rfl, hc⟩
theorem fieldX_spec {t : TypeId} {f o : Nat} {ft : TypeId} (h : fieldX P t f = some (o, ft)) : ∃ fs fd, P.underlying t = some (.struct fs) ∧ fs[f]? = some fd ∧ fd.offset = o ∧ fd.type = ft := by
  unfold fieldX at h
  split at h
  · rename_i fs hu
    split at h
    · rename_i fd hf
      cases h
      exact ⟨fs, fd, hu, hf, rfl, rfl⟩
    · cases h
  · cases h
theorem elemX_spec {t e : TypeId} (h : elemX P t = some e) : P.underlying t = some (.slice e) := by
  unfold elemX at h
  split at h
  · cases h; assumption
  · cases h
theorem arrX_spec {t e : TypeId} {n : Nat} (h : arrX P t = some (n, e)) : P.underlying t = some (.array n e) := by
  unfold arrX at h
  split at h
  · cases h; assumption
  · cases h
theorem cellsOf_pos_info {t : TypeId} (h : P.cellsOf t ≠ 0) : ∃ i, P.info? t = some i := by
  unfold Program.cellsOf at h
  cases hi : P.info? t with
  | none => simp [hi] at h
  | some i => exact ⟨i, rfl⟩
theorem run_sizeOf_pos [DrK] {t : TypeId} (h : P.cellsOf t ≠ 0) (w : World) : (sizeOf t).run P w = .ok (P.cellsOf t) w := by
  obtain ⟨i, hi⟩ := cellsOf_pos_info h
  exact run_sizeOf' hi w
theorem fieldPlace_run [DrK] {fd : Field} (h : P.cellsOf fd.type ≠ 0) (a : Addr) (w : World) : (fieldPlace a fd).run P w = .ok (a.add fd.offset) w := by
  simp [fieldPlace, run_sizeOf_pos h, h]

section
variable {wr : Bool} {VS : Option View} {bx : List Box} {ρ : Operand → Option RV} {η : Operand → Value} {V : View} {C : Option RV → List Box → View → Prop} {o : Oper}
theorem fl_load [DrK] {t : TypeId} {x : Operand} (ho : o.op = .load t x) (hρ : ∀ x r, ρ x = some r → η x = r.val bx) (h : opX P wr VS bx (.load t x) o.type ρ V C) : FloatOk P bx (VS.getD V) η o V C := by
  simp only [opX] at h
  split at h
  · rename_i i off hx
    have hη := hρ x _ hx
    split at h
    · rename_i ver blk ty cs hb
      split at h
      · rename_i v hp
        refine .one (fun w hw0 => ?_) h
        have hw := hw0 (by rw [ho]; rfl)
        have := partX_run hb rfl hp w hw
        simp [execOp, ho, hη, RV.val, hb, Instr.loadAt, Instr.sureAddr, this]
      · exact h.elim
    · rename_i ver blk ty hb
      split at h
      · rename_i k hk
        obtain ⟨v, hr, hc⟩ := ldV_run hk h
        refine .one (fun w hw0 => ?_) hc
        have hw := hw0 (by rw [ho]; rfl)
        simp [execOp, ho, hη, RV.val, hb, Instr.loadAt, Instr.sureAddr, hr w hw.isIn]
      · exact h.elim
    · exact h.elim
  · rename_i a hx
    have hη := hρ x _ hx
    split at h
    · rename_i k hk
      obtain ⟨v, hr, hc⟩ := ldV_run hk h
      refine .one (fun w hw0 => ?_) hc
      have hw := hw0 (by rw [ho]; rfl)
      simp [execOp, ho, hη, RV.val, Instr.loadAt, Instr.sureAddr, hr w hw.isIn]
    · exact h.elim
  · exact h.elim
theorem fl_nilCheck [DrK] {x : Operand} (ho : o.op = .nilCheck x) (hρ : ∀ x r, ρ x = some r → η x = r.val bx) (h : opX P wr VS bx (.nilCheck x) o.type ρ V C) : FloatOk P bx (VS.getD V) η o V C := by
  simp only [opX] at h
  split at h
  · rename_i i off hx
    have hη := hρ x _ hx
    exact .rv (fun w hw => by simp [execOp, ho, hη, RV.val]) h
  · rename_i p hx
    have hη := hρ x _ hx
    obtain ⟨a, rfl, hc⟩ := h
    exact .one (fun w hw => by simp [execOp, ho, hη, RV.val]) hc
  · rename_i g f c hx
    have hη := hρ x _ hx
    exact .one (fun w hw => by simp [execOp, ho, hη, RV.val]) h
  · exact h.elim
theorem fl_binOp [DrK] {op : BinOp} {t u : TypeId} {x y : Operand} (ho : o.op = .binOp op t x y u) (hρ : ∀ x r, ρ x = some r → η x = r.val bx) (h : opX P wr VS bx (.binOp op t x y u) o.type ρ V C) : FloatOk P bx (VS.getD V) η o V C := by
  simp only [opX] at h
  split at h
  · rename_i a b hx hy
    have hηx := hρ x _ hx
    have hηy := hρ y _ hy
    have run : ∀ v, (∀ w, (do eqGuard op t x y a b; binOp op t a b : Sem Value).run P w = .ok v w) → ∀ w, (execOp η o).run P w = .ok (.value v) w := fun v hv w => by
      have := hv w
      simp only [execOp, ho, hηx, hηy, RV.val]
      rw [Sem.run_bind, this]
      rfl
    split at h
    · obtain ⟨v, hv, hc⟩ := eqX_run (.inl rfl) h x y
      exact .one (fun w _ => run v hv w) hc
    · obtain ⟨v, hv, hc⟩ := eqX_run (.inr rfl) h x y
      exact .one (fun w _ => run v hv w) hc
    · obtain ⟨v, h1, h2, hc⟩ := binX_run (t := t) h
      exact .one (fun w _ => run v (fun w => by rw [Sem.run_bind, h2]; exact h1 w) w) hc
  · rename_i i off hx hy
    have hηx := hρ x _ hx
    have hηy := hρ y _ hy
    split at h
    · rename_i e hu
      refine .one (fun w _ => ?_) h
      simp only [execOp, ho, hηx, hηy, RV.val]
      have : (binOp .eql t (.pointer (some ⟨(bx[i]?.map (·.blk)).getD 0, off, none⟩)) (.pointer none)).run P w = .ok (.bool false) w := by
        show (do pure (.bool (← Op.equal t _ _)) : Sem Value).run P w = _
        rw [Sem.run_bind, equal_run0 hu _ _ w false rfl]
        rfl
      rw [Sem.run_bind, Sem.run_bind, show (eqGuard .eql t x y (.pointer (some ⟨(bx[i]?.map (·.blk)).getD 0, off, none⟩)) (.pointer none)).run P w = .ok () w from rfl, Result.andThen_ok, this]
      rfl
    · rename_i e hu
      refine .one (fun w _ => ?_) h
      simp only [execOp, ho, hηx, hηy, RV.val]
      have : (binOp .neq t (.pointer (some ⟨(bx[i]?.map (·.blk)).getD 0, off, none⟩)) (.pointer none)).run P w = .ok (.bool true) w := by
        show (do pure (.bool (!(← Op.equal t _ _))) : Sem Value).run P w = _
        rw [Sem.run_bind, equal_run0 hu _ _ w false rfl]
        rfl
      rw [Sem.run_bind, Sem.run_bind, show (eqGuard .neq t x y (.pointer (some ⟨(bx[i]?.map (·.blk)).getD 0, off, none⟩)) (.pointer none)).run P w = .ok () w from rfl, Result.andThen_ok, this]
      rfl
    · exact h.elim
  · exact h.elim
theorem fl_unOp [DrK] {op : UnOp} {t : TypeId} {x : Operand} (ho : o.op = .unOp op t x) (hρ : ∀ x r, ρ x = some r → η x = r.val bx) (h : opX P wr VS bx (.unOp op t x) o.type ρ V C) : FloatOk P bx (VS.getD V) η o V C := by
  simp only [opX] at h
  split at h
  · rename_i b hx
    exact .one (fun w _ => by simp [execOp, ho, hρ x _ hx, RV.val, Op.unary]) h
  · rename_i k n hx
    exact .one (fun w _ => by simp [execOp, ho, hρ x _ hx, RV.val, Op.unary, Op.intArith]) (ari_spec h)
  · rename_i k n hx
    exact .one (fun w _ => by simp [execOp, ho, hρ x _ hx, RV.val, Op.unary, Op.intBits, bitsI]) h
  · exact h.elim
theorem fold_push : ∀ (l : List UInt8) (s : ByteArray), (l.map fun b => (b.toNat : Int)).foldl (fun (r : ByteArray) (n : Int) => r.push (UInt8.ofNat n.toNat)) s = ⟨⟨s.data.toList ++ l⟩⟩
  | [], s => by simp
  | b :: l, s => by
    simp only [List.map_cons, List.foldl_cons]
    rw [fold_push l]
    simp [ByteArray.push]
theorem rowAt_runS [DrK] {S : View} {w : World} {a : Option Addr} {k : Nat} {cs : List Value} (h : rowAt S a k cs) (hw : S.Sees w) : ∀ ad, a = some ad → (loadCells ad k).run P w = .ok ⟨cs⟩ w := by
  rintro ad rfl
  obtain ⟨hl, hc⟩ := h
  have := run_loadCells_list (P := P) w ad cs (fun j v hj => hw.cell (hc j v hj))
  rw [hl] at this
  exact this
theorem bytes_string_run [DrK] {S : View} {w : World} {a : Option Addr} {n c : Nat} {b : ByteArray} (hrow : rowAt S a n (bytesV b)) (hw : S.Sees w) : (Conv.bytesToString (.slice a n c)).run P w = .ok (.string b) w := by
  cases a with
  | none =>
    have hnil : bytesV b = [] := hrow
    have hd' : b.data = #[] := by simpa [bytesV] using hnil
    cases b with
    | mk d =>
      simp only at hd'
      subst hd'
      rfl
  | some ad =>
    have h1 := rowAt_runS (P := P) hrow hw ad rfl
    have e1 : (⟨bytesV b⟩ : Array Value) = ((b.data.toList.map fun x => (x.toNat : Int)).map (Value.int .u8)).toArray := by
      apply Array.ext'
      simp [bytesV]
    rw [e1] at h1
    rw [run_bytesToString w ad n c _ h1, fold_push]
    congr 2
theorem fl_convert [DrK] {s d : TypeId} {x : Operand} (hf : floats P (.convert s d x) = true) (ho : o.op = .convert s d x) (hρ : ∀ x r, ρ x = some r → η x = r.val bx) (h : opX P wr VS bx (.convert s d x) o.type ρ V C) : FloatOk P bx (VS.getD V) η o V C := by
  simp only [opX] at h
  split at h
  · rename_i k k' q n hs hd hx
    refine .one (fun w _ => ?_) (ari_spec h)
    simp [execOp, ho, hρ x _ hx, RV.val, convert, run_underlying hs, run_underlying hd, Conv.intToInt]
  · rename_i b hs hd hx
    refine .one (fun w _ => ?_) h
    simp [execOp, ho, hρ x _ hx, RV.val, convert, run_underlying hs, run_underlying hd]
  · rename_i e b hs hd hx
    simp [floats, hs, hd] at hf
  · rename_i e a n c hs hd hx
    split at h
    · rename_i he
      obtain ⟨b, hrow, hC⟩ := h
      refine .one (fun w hg => ?_) hC
      have hrun := bytes_string_run (P := P) (w := w) (c := c) hrow (hg (by simp [ho, isLoad, hs, hd])).isIn
      simp [execOp, ho, hρ x _ hx, RV.val, run_convert_bytes_string w s d e a n c hs he hd, hrun]
    · exact h.elim
  · rename_i hs hd hx
    simp [floats, hs, hd] at hf
  · exact h.elim
end
end
end Go.Proofs.YtgkmcnafkhdlnaaGreat
