/- The executor of YtgkmcnafkhdlnaaGreatCore is right: one step of a region, put together. -/
import Derived.Test.YtgkmcnafkhdlnaaGreatSound6
set_option linter.unusedSimpArgs false
set_option linter.unusedVariables false
namespace Go.Proofs.YtgkmcnafkhdlnaaGreat
open Go Go.RowKit
section
variable {P : Program} {wr : Bool} {V0 : View} {w0 : World}

theorem set_box_get {bx : List Box} {i : Nat} {b b' : Box} (hb : bx[i]? = some b) : ∀ (j : Nat) (c : Box), (bx.set i b')[j]? = some c → (j = i ∧ c = b') ∨ (j ≠ i ∧ bx[j]? = some c) := fun j c hj => by
  rw [List.getElem?_set] at hj
  split at hj
  · rename_i e
    subst e
    split at hj
    · left; exact ⟨rfl, (Option.some.inj hj).symm⟩
    · cases hj
  · rename_i e; right; exact ⟨fun e' => e e'.symm, hj⟩
theorem BxRel.set {bx : List Box} {i : Nat} {b b' : Box} (hb : bx[i]? = some b) (hv : b.ver < b'.ver) (hk : b'.blk = b.blk ∧ b'.ty = b.ty) : BxRel bx (bx.set i b') := fun j c hc => by
  by_cases e : j = i
  · subst e
    rw [hb] at hc
    cases hc
    exact ⟨b', List.getElem?_set_self (List.getElem?_eq_some_iff.1 hb).1, by omega, hk, fun h => by omega⟩
  · exact ⟨c, by rw [List.getElem?_set_ne (fun e' => e e'.symm)]; exact hc, Nat.le_refl _, ⟨rfl, rfl⟩, fun _ => rfl⟩
theorem openX_spec [DrK] : ∀ (l : List (Nat × Nat)) (i : Nat) (st : St) (V : View) (C : St → View → Prop) (a : Act) (w : World), Agr st a → Inv V0 w0 V w st.boxes → openX l i st V C →
    ∃ st' V', Agr st' a ∧ Inv V0 w0 V' w st'.boxes ∧ StRel st st' ∧ st'.gam = st.gam ∧ C st' V'
  | [], i, st, V, C, a, w, ha, hi, h => ⟨st, V, ha, hi, StRel.refl _, rfl, h⟩
  | (j, b) :: r, i, st, V, C, a, w, ha, hi, h => by
    unfold openX at h
    split at h
    · split at h
      · rename_i v blk t cs hb
        have hbr : BxRel st.boxes (st.boxes.set b ⟨v + 1, blk, t, none⟩) := BxRel.set hb (Nat.lt_succ_self _) ⟨rfl, rfl⟩
        have hsh := hi.boxes.shut b _ cs hb rfl
        have hlo := hi.boxes.lo b _ hb
        have hi' : Inv V0 w0 (V.put blk (.cells ⟨cs⟩ t (0, 0))) w (st.boxes.set b ⟨v + 1, blk, t, none⟩) := by
          refine ⟨⟨?_, fun k o hk => ?_, hi.isIn.out⟩, ⟨hi.fr.size, fun k hk hn => ?_, hi.fr.drawn⟩, ⟨fun k c hk => ?_, fun k c cs' hk hc => ?_, fun k l c d hk hl e => ?_⟩⟩
          · have := hi.isIn.size
            have := hlo.2
            simp only [View.put] at *
            omega
          · by_cases e : k = blk
            · subst e; simp only [View.put, if_true] at hk; cases hk; exact hsh.2
            · simp only [View.put, if_neg e] at hk; exact hi.isIn.see k o hk
          · have h1 := hi.fr.hid k hk hn
            have : k ≠ blk := by have := hlo.1; simp only at this; omega
            exact ⟨by simp only [View.put, if_neg this]; exact h1.1, h1.2⟩
          · rcases set_box_get hb k c hk with ⟨_, rfl⟩ | ⟨_, hk'⟩
            · exact hlo
            · exact hi.boxes.lo k c hk'
          · rcases set_box_get hb k c hk with ⟨_, rfl⟩ | ⟨hne, hk'⟩
            · cases hc
            · have h1 := hi.boxes.shut k c cs' hk' hc
              have : c.blk ≠ blk := fun e => hne (hi.boxes.ne k b c _ hk' hb e)
              exact ⟨by simp only [View.put, if_neg this]; exact h1.1, h1.2⟩
          · rcases set_box_get hb k c hk with ⟨hk1, rfl⟩ | ⟨hk1, hk'⟩ <;> rcases set_box_get hb l d hl with ⟨hl1, rfl⟩ | ⟨hl1, hl'⟩
            · omega
            · exact absurd (hi.boxes.ne b l _ d hb hl' e) (fun h => hl1 h.symm)
            · exact absurd (hi.boxes.ne k b c _ hk' hb e) hk1
            · exact hi.boxes.ne k l c d hk' hl' e
        obtain ⟨st', V', h1, h2, h3, h4, h5⟩ := openX_spec r i _ _ C a w (ha.boxes hbr) hi' (h hsh.1)
        exact ⟨st', V', h1, h2, (boxes_rel hbr).trans h3, h4, h5⟩
      · exact h.elim
    · exact openX_spec r i st V C a w ha hi h
theorem closeX_spec [DrK] : ∀ (l : List (Nat × Nat)) (i : Nat) (st : St) (V : View) (C : St → View → Prop) (a : Act) (w : World), Agr st a → Inv V0 w0 V w st.boxes → closeX P l i st V C →
    ∃ st' V', Agr st' a ∧ Inv V0 w0 V' w st'.boxes ∧ StRel st st' ∧ C st' V'
  | [], i, st, V, C, a, w, ha, hi, h => ⟨st, V, ha, hi, StRel.refl _, h⟩
  | (j, b) :: r, i, st, V, C, a, w, ha, hi, h => by
    unfold closeX at h
    split at h
    · split at h
      · rename_i v blk t hb
        split at h
        · rename_i ks hks
          obtain ⟨cs, _, _, hs, hC⟩ := exTy_spec _ _ h
          have hbr : BxRel st.boxes (st.boxes.set b ⟨v + 1, blk, t, some cs⟩) := BxRel.set hb (Nat.lt_succ_self _) ⟨rfl, rfl⟩
          have hlo := hi.boxes.lo b _ hb
          have hi' : Inv V0 w0 (V.hide blk) w (st.boxes.set b ⟨v + 1, blk, t, some cs⟩) := by
            refine ⟨⟨hi.isIn.size, fun k o hk => ?_, hi.isIn.out⟩, ⟨hi.fr.size, fun k hk hn => ?_, hi.fr.drawn⟩, ⟨fun k c hk => ?_, fun k c cs' hk hc => ?_, fun k l c d hk hl e => ?_⟩⟩
            · by_cases e : k = blk
              · simp [View.hide, e] at hk
              · simp only [View.hide, if_neg e] at hk; exact hi.isIn.see k o hk
            · have h1 := hi.fr.hid k hk hn
              have : k ≠ blk := by have := hlo.1; simp only at this; omega
              exact ⟨by simp only [View.hide, if_neg this]; exact h1.1, h1.2⟩
            · rcases set_box_get hb k c hk with ⟨_, rfl⟩ | ⟨_, hk'⟩
              · exact hlo
              · exact hi.boxes.lo k c hk'
            · rcases set_box_get hb k c hk with ⟨_, rfl⟩ | ⟨hne, hk'⟩
              · cases hc
                exact ⟨by simp [View.hide], hi.isIn.see _ _ hs⟩
              · have h1 := hi.boxes.shut k c cs' hk' hc
                refine ⟨?_, h1.2⟩
                simp only [View.hide]
                split
                · rfl
                · exact h1.1
            · rcases set_box_get hb k c hk with ⟨hk1, rfl⟩ | ⟨hk1, hk'⟩ <;> rcases set_box_get hb l d hl with ⟨hl1, rfl⟩ | ⟨hl1, hl'⟩
              · omega
              · exact absurd (hi.boxes.ne b l _ d hb hl' e) (fun h => hl1 h.symm)
              · exact absurd (hi.boxes.ne k b c _ hk' hb e) hk1
              · exact hi.boxes.ne k l c d hk' hl' e
          obtain ⟨st', V', h1, h2, h3, h5⟩ := closeX_spec r i _ _ C a w (ha.boxes hbr) hi' hC
          exact ⟨st', V', h1, h2, (boxes_rel hbr).trans h3, h5⟩
        · exact h.elim
      · exact h.elim
    · exact closeX_spec r i st V C a w ha hi h

/-- Where a step goes on. -/
def Then [DrK] (V0 : View) (w0 : World) (st : St) (o : Oper) (a : Act) (C : St → View → Prop) (v : Value) (w : World) : Prop :=
  ∃ st' V', Agr st' (a.put o.dst v) ∧ Inv V0 w0 V' w st'.boxes ∧ StRel st st' ∧ C st' V'
/-- A step: it is left out; it yields one value in every world that is good; or it does what it does. -/
inductive StepOk [DrK] (P : Program) (ops : Array Oper) (V0 : View) (w0 : World) (st : St) (o : Oper) (G : World → Prop) (a : Act) (w : World) (C C' : St → View → Prop) : Prop where
  | off (h : Region.wanted o (yielded ops a.tmps) = false) (k : Then V0 w0 st o a C undef w)
  | fl (h : Region.wanted o (yielded ops a.tmps) = true) (hf : floats P o.op = true) (v : Value) (hv : ∀ w', (isLoad P o.op = true → G w') → (execOp a.eval o).run P w' = .ok (.value v) w') (k : Then V0 w0 st o a C v w)
  | loud (h : Region.wanted o (yielded ops a.tmps) = true) (hf : floats P o.op = false) (k : match (execOp a.eval o).run P w with
      | .ok (.value v) w' => Then V0 w0 st o a C' v w'
      | .ok .skip w' => Then V0 w0 st o a C' undef w'
      | .ok (.enter f args) w' => Calls P f args w' fun e w'' => ∃ v, e = .returned v ∧ Then V0 w0 st o a C' v w''
      | _ => False)
end
end Go.Proofs.YtgkmcnafkhdlnaaGreat
