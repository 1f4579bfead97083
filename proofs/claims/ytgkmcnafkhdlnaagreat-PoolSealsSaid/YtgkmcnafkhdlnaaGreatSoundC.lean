/- The executor of YtgkmcnafkhdlnaaGreatCore is right: functions. -/
import Derived.Test.YtgkmcnafkhdlnaaGreatSoundB
import Derived.Test.YtgkmcnafkhdlnaaGreatChecked
import Derived.Eval
set_option linter.unusedSimpArgs false
set_option linter.unusedVariables false
namespace Go.Proofs.YtgkmcnafkhdlnaaGreat
open Go Go.RowKit
section
variable {P : Program} {wr : Bool}
def resM (tmps : Array Value) : ResultVar → Sem Value
  | .tmp t => pure (tmps.getD t undef)
  | .cell t ty => do loadVar ty (← asAddr (tmps.getD t undef))
theorem resX_run [DrK] {V0 V : View} {w0 w : World} {st : St} {a : Act} (ha : AgrB st a) (hi : Inv V0 w0 V w st.boxes) : ∀ (l : List ResultVar) (C : List Value → View → Prop), resX P st V l C →
    ∃ vs, (l.mapM (resM a.tmps)).run P w = .ok vs w ∧ C vs V := by
  intro l
  induction l with
  | nil => intro C h; exact ⟨[], by simp, h⟩
  | cons r l ih =>
    intro C h
    have slot : ∀ {t ver : Nat} {e : SE}, st.slots[t]? = some (ver, some e) → a.tmps.getD t undef = e.rv.val st.boxes := by
      intro t ver e he
      have := ha.agr.ent t ver e he (by rw [ha.gam, (ha.conds he).1]; exact Hold.nil _)
      rw [Array.getD_eq_getD_getElem?, this]; rfl
    cases r with
    | tmp t =>
      unfold resX at h
      split at h
      · rename_i ver tag rv hs
        split at h
        · rename_i v hv
          obtain ⟨vs, h1, h2⟩ := ih _ h
          refine ⟨v :: vs, ?_, h2⟩
          have h3 := slot hs
          simp only at h3
          rw [toV_val hv] at h3
          have h4 : (resM a.tmps (.tmp t)).run P w = .ok v w := by show (pure (a.tmps.getD t undef) : Sem Value).run P w = _; rw [h3]; rfl
          simp [List.mapM_cons, h1, h4]
        · exact h.elim
      · exact h.elim
    | cell t ty =>
      unfold resX at h
      split at h
      · rename_i ver tag i off hs
        split at h
        · rename_i bver blk bty cs hb
          split at h
          · rename_i v hv
            obtain ⟨vs, h1, h2⟩ := ih _ h
            refine ⟨v :: vs, ?_, h2⟩
            have h3 := slot hs
            simp only [RV.val, hb, Option.map_some, Option.getD_some] at h3
            have h4 := partX_run (S := V) hb rfl hv w hi.good
            have h5 : (resM a.tmps (.cell t ty)).run P w = .ok v w := by show (do loadVar ty (← asAddr (a.tmps.getD t undef)) : Sem Value).run P w = _; rw [h3]; simpa [asAddr] using h4
            simp [List.mapM_cons, h1, h5]
          · exact h.elim
        · rename_i bver blk bty hb
          split at h
          · rename_i k hk
            obtain ⟨v, hr, hc⟩ := ldV_run hk h
            obtain ⟨vs, h1, h2⟩ := ih _ hc
            refine ⟨v :: vs, ?_, h2⟩
            have h3 := slot hs
            simp only [RV.val, hb, Option.map_some, Option.getD_some] at h3
            have h4 := hr w hi.isIn.see
            have h5 : (resM a.tmps (.cell t ty)).run P w = .ok v w := by show (do loadVar ty (← asAddr (a.tmps.getD t undef)) : Sem Value).run P w = _; rw [h3]; simpa [asAddr] using h4
            simp [List.mapM_cons, h1, h5]
          · exact h.elim
        · exact h.elim
      · exact h.elim
theorem start_agr [DrK] {args : List Value} {n : Nat} : AgrB (startX args n) { tmps := ⟨args⟩ ++ Array.replicate (n - args.length) undef, defers := [] } := by
  have hget : ∀ (t ver : Nat) (e : SE), (startX args n).slots[t]? = some (ver, some e) → ∃ v, args[t]? = some v ∧ e = ⟨[], none, .v v⟩ := by
    intro t ver e he
    simp only [startX] at he
    rw [List.getElem?_append] at he
    split at he
    · rw [List.getElem?_map] at he
      cases hv : args[t]? with
      | none => rw [hv] at he; simp at he
      | some v =>
        rw [hv] at he
        simp only [Option.map_some, SE.val, Option.some.injEq, Prod.mk.injEq] at he
        exact ⟨v, rfl, he.2.symm⟩
    · rw [List.getElem?_replicate] at he
      split at he <;> simp at he
  refine ⟨⟨?_, ?_, ?_, ?_, ?_, ?_, ?_, rfl⟩, rfl, rfl⟩
  · simp [startX]
  · intro t ver e he _
    obtain ⟨v, hv, rfl⟩ := hget t ver e he
    rw [Array.getElem?_append, if_pos (by
      rcases Nat.lt_or_ge t args.length with h' | h'
      · simpa using h'
      · rw [List.getElem?_eq_none h'] at hv; cases hv)]
    simpa [RV.val] using hv
  · intro t ver e he hn
    obtain ⟨v, hv, rfl⟩ := hget t ver e he
    exact (hn (Hold.nil _)).elim
  · intro t ver e tag he ht
    obtain ⟨v, hv, rfl⟩ := hget t ver e he
    cases ht
  · intro t ver e he i off hr
    obtain ⟨v, hv, rfl⟩ := hget t ver e he
    cases hr
  · intro t ver e he
    obtain ⟨v, hv, rfl⟩ := hget t ver e he
    intro p hp; cases hp
  · exact Hold.nil _
theorem XF_sound [DrK] (hm : P.follows .mixedOrders = true) {f : FuncId} {fn : Func} {ac : AC} {args : List Value} {V : View} {K : Value → View → Prop} (he : Enters P f)
    (hf : P.funcs[f]? = some fn) (h : XF P wr fn ac args V K) : CallV P f ⟨args⟩ V K := by
  refine ⟨he, fun w hw => ?_⟩
  unfold XF at h
  split at h
  · rename_i c hc
    refine calls_of_wp hf hc (wp_mono (X_sound (V0 := V) (w0 := w) (wr := wr) hm ac c _ V _ _ w start_agr ⟨hw, Fr.refl V w, ⟨by intro i b hb; simp [startX] at hb, by intro i b cs hb; simp [startX] at hb, by intro i j b c hb; simp [startX] at hb⟩⟩ h) fun e a w' hq => ?_)
    have fin : ∀ (C : St → View → Prop), (∀ st V', C st V' → resX P st V' fn.results.toList fun vs V' => K (match vs with
        | [v] => v
        | vs => .tuple ⟨vs⟩) V') → EndsB V w (startX args fn.ntmps) C a w' →
        a.defers = [] ∧ ∃ v, (results fn a.tmps).run P w' = .ok v w' ∧ ∃ r V', (Ending.returned v) = .returned r ∧ V'.In w' ∧ Fr V w V' w' ∧ K r V' := by
      rintro C hC ⟨st', V', h1, h2, h3, h4⟩
      obtain ⟨vs, h5, h6⟩ := resX_run h1 h2 _ _ (hC _ _ h4)
      refine ⟨h1.agr.df, _, ?_, _, V', rfl, h2.isIn, h2.fr, h6⟩
      have h7 : results fn a.tmps = (fn.results.mapM (resM a.tmps) >>= fun vs => pure (if h : vs.size = 1 then vs[0] else .tuple vs)) := by
        unfold results
        congr 1
      rw [h7, show fn.results = ⟨fn.results.toList⟩ from rfl, List.mapM_toArray]
      simp [h5]
      match vs with
      | [] => rfl
      | [v] => rfl
      | v :: u :: vs => rfl
    cases e with
    | normal => exact fin _ (fun st V' h => h) hq
    | ret => exact fin _ (fun st V' h => h) hq
    | exit id => 
      obtain ⟨st', V', h1, h2, h3, h4⟩ := hq
      exact h4.elim
    | _ => exact hq.elim
  · exact h.elim
/-- f has a body of its own. -/
theorem enters_of {f : FuncId} {fn : Func} (hf : P.funcs[f]? = some fn) (hn : (fn.name == "runtime.NumGoroutine") = false) (hb : fn.body.isNone = false) : Enters P f := by
  intro args w
  have h1 : ¬ fn.name = "runtime.NumGoroutine" := by simpa using hn
  have h2 : ¬ fn.body = none := by intro h; rw [h] at hb; cases hb
  simp [callFunc, hf, h1, h2]
end
end Go.Proofs.YtgkmcnafkhdlnaaGreat
