/- The executor of YtgkmcnafkhdlnaaGreatCore is right: what is alike; keys of maps. -/
import Derived.Test.YtgkmcnafkhdlnaaGreatSound
import Derived.Laws.StructEq
import Derived.WideKeyRuns
set_option linter.unusedSimpArgs false
set_option linter.unusedVariables false
namespace Go.Proofs.YtgkmcnafkhdlnaaGreat
open Go Go.RowKit
section
variable {P : Program}
theorem toList_data (s : ByteArray) : s.toList = s.data.toList := ByteArray.toList_eq s
theorem str_beq [DrK] (a b : ByteArray) : (a.toList == b.toList) = decide (a = b) := by
  rw [toList_data, toList_data]
  by_cases h : a = b
  · subst h; simp
  · rw [decide_eq_false h, beq_eq_false_iff_ne]
    intro e
    apply h
    cases a; cases b
    simp only at e
    congr
    exact Array.ext' e
theorem part_run [DrK] {t : TypeId} {cs : List Value} {off : Nat} {v : Value} (h : partX P t cs off = some v) (w : World) : (part t ⟨cs⟩ off).run P w = .ok v w := by
  unfold partX at h
  cases hu : P.underlying t with
  | none => simp [hu] at h
  | some d =>
    rw [hu] at h
    cases hd : aggD d with
    | true =>
      have hv : Value.agg ⟨(cs.drop off).take (P.cellsOf t)⟩ = v := by
        cases d <;> simp only [aggD, Bool.false_eq_true] at hd <;> dsimp only at h <;> split at h <;> first
          | exact Option.some.inj h
          | cases h
      have e : (⟨cs⟩ : Array Value).extract off (off + P.cellsOf t) = ⟨(cs.drop off).take (P.cellsOf t)⟩ := by
        apply Array.ext'
        simp [List.extract_eq_take_drop]
      simp [part, run_isAgg hu, hd, run_sizeOf hu, e, hv]
    | false =>
      have hv : cs[off]? = some v := by
        cases d <;> simp only [aggD, reduceCtorEq] at hd <;> exact h
      simp [part, run_isAgg hu, hd, hv]
theorem eqC_run [DrK] : ∀ (d D : Nat) (t : TypeId) (x y : Value) (r : Bool) (m : Nat), eqT P m t = true → eqC P d t x y = some r → d ≤ D → ∀ w, (Op.equalIn D t x y).run P w = .ok r w
  | 0, _, _, _, _, _, _, _, h, _, _ => by simp [eqC] at h
  | d + 1, 0, _, _, _, _, _, _, _, h, _ => by omega
  | d + 1, D + 1, t, x, y, r, m, hm, h, hD, w => by
    unfold eqC at h
    cases m with
    | zero => simp [eqT] at hm
    | succ m =>
      unfold eqT at hm
      split at h
      · rename_i q k a k' b hu
        split at h
        · rename_i hk
          cases of_decide_eq_true hk
          cases h
          unfold Op.equalIn
          simp only [Sem.run_bind, run_underlying hu, Result.andThen_ok, if_pos, Sem.run_pure]
          congr 1
        · cases h
      · rename_i a b hu
        cases h
        rw [run_equalIn_string w D t a b hu, str_beq]
      · rename_i a b hu
        cases h
        exact run_equalIn_bool w D t a b hu
      · rename_i fs xs ys hu
        rw [hu] at hm
        simp only [Bool.and_eq_true, Bool.not_eq_true', List.all_eq_true, bne_iff_ne] at hm
        have hfo : P.fieldsOf t = fs := by simp [Program.fieldsOf, hu]
        rw [run_equalIn_struct w D t ⟨xs⟩ ⟨ys⟩ (by rw [hfo]; exact hu) hm.1, hfo]
        have hall := hm.2
        clear hm hu hfo
        generalize fs.toList = l at h hall
        induction l generalizing r w with
        | nil => simp only [eqCF, Option.some.injEq] at h; subst h; simp [Op.eqFields]
        | cons f l ih =>
          unfold eqCF at h
          split at h
          · rename_i a b ha hb
            split at h
            · rename_i g g' hg hg'
              cases h
              have h1 := eqC_run d D f.type a b g m (hall f (by simp)).2 hg (by omega) w
              have h2 := ih g' w hg' (fun z hz => hall z (by simp [hz]))
              have hn := (hall f (by simp)).1
              simp only [Op.eqFields, hn, ne_eq, not_false_eq_true, if_true, Sem.run_bind, part_run ha, part_run hb, Result.andThen_ok, h1]
              cases g with
              | true => simpa using h2
              | false => simp
            · cases h
          · cases h
      · cases h
theorem eqOk_spec {t : TypeId} (h : eqOk P t) : eqT P 6 t = true ∧ P.eqGuardType P.depth t = false := by
  unfold eqOk at h
  split at h
  · rename_i h1; simpa using h1
  · exact h.elim
theorem partX_one {t : TypeId} {d : TypeDesc} {cs : List Value} {off : Nat} {v x : Value} (hu : P.underlying t = some d) (hf : fit1 d x = true) (hv : cs[off]? = some v) : partX P t cs off = some v := by
  unfold partX
  rw [hu]
  cases d <;> simp [fit1] at hf <;> exact hv
theorem key1_eqC {t : TypeId} {d : TypeDesc} {x y : Value} {r : Bool} (n : Nat) (hu : P.underlying t = some d) (hf : fit1 d x = true) (h : keyEq1 x y = some r) : eqC P (n + 1) t x y = some r := by
  unfold eqC
  rw [hu]
  cases d <;> cases x <;> simp only [fit1, Bool.false_eq_true] at hf <;> cases y <;> simp only [keyEq1, reduceCtorEq] at h <;> first
    | exact h
    | (simp only; exact h)
theorem keyL_eqC [DrK] (n : Nat) {xs ys : List Value} : ∀ (l : List Field) (i : Nat) (us zs : List Value) (r : Bool), us = xs.drop i → zs = ys.drop i → fitF P i l us = true → keyEqL us zs = some r →
    eqCF (eqC P (n + 1)) P l xs ys = some r
  | [], i, [], [], r, _, _, _, h => by simpa [keyEqL, eqCF] using h
  | [], _, [], _ :: _, _, _, _, _, h => by simp [keyEqL] at h
  | [], _, _ :: _, _, _, _, _, h, _ => by simp [fitF] at h
  | _ :: _, _, [], _, _, _, _, h, _ => by simp [fitF] at h
  | _ :: _, _, _ :: _, [], _, _, _, _, h => by simp [keyEqL] at h
  | f :: l, i, u :: us, z :: zs, r, hu, hz, hf, h => by
    simp only [fitF, Bool.and_eq_true, beq_iff_eq] at hf
    obtain ⟨⟨hoff, h1⟩, h2⟩ := hf
    unfold keyEqL at h
    split at h
    · rename_i g g' hg hg'
      cases h
      have hxi : xs[i]? = some u := by
        have := List.getElem?_drop (xs := xs) (i := i) (j := 0)
        rw [← hu] at this; simpa using this.symm
      have hyi : ys[i]? = some z := by
        have := List.getElem?_drop (xs := ys) (i := i) (j := 0)
        rw [← hz] at this; simpa using this.symm
      have hus : us = xs.drop (i + 1) := by rw [← List.drop_drop, ← hu]; rfl
      have hzs : zs = ys.drop (i + 1) := by rw [← List.drop_drop, ← hz]; rfl
      have ih := keyL_eqC n l (i + 1) us zs g' hus hzs h2 hg'
      split at h1
      · rename_i d hd
        unfold eqCF
        rw [hoff, partX_one hd h1 hxi, partX_one hd h1 hyi]
        simp only [key1_eqC n hd h1 hg, ih]
      · cases h1
    · cases h
theorem keyEq_eqC [DrK] {t : TypeId} {x y : Value} {r : Bool} (hf : keyFit P t x = true) (h : keyEq x y = some r) : eqC P 6 t x y = some r := by
  unfold keyFit at hf
  split at hf
  · rename_i fs vs hu
    cases y with
    | agg ys =>
      obtain ⟨ys⟩ := ys
      unfold eqC
      rw [hu]
      exact keyL_eqC 4 fs.toList 0 vs ys r rfl rfl hf h
    | _ => simp [keyEq, keyEq1] at h
  · rename_i v x' v' d hu hn
    refine key1_eqC 5 hu hf ?_
    unfold keyEq at h
    split at h
    · exfalso; cases d <;> simp [fit1] at hf
    · exact h
  · cases hf
theorem keyEq_run [DrK] {t : TypeId} {x y : Value} {r : Bool} (ho : eqOk P t) (hf : keyFit P t x = true) (h : keyEq x y = some r) (w : World) : (Op.equal t x y).run P w = .ok r w :=
  eqC_run 6 10000 t x y r 6 (eqOk_spec ho).1 (keyEq_eqC hf h) (by decide) w
theorem sameNow_keyEq [DrK] {d : TypeDesc} {x y : Value} {b c : Bool} (h : Instr.sameNow d x y = some b) (k : keyEq x y = some c) : b = c := by
  unfold Instr.sameNow at h
  split at h
  · split at h
    · rename_i hk
      cases h
      simp only [keyEq, keyEq1, hk, decide_true] at k
      cases k
      rfl
    · cases h
  · rename_i a b'
    cases h
    simp only [keyEq, keyEq1, Option.some.injEq] at k
    rw [← k, ← str_beq, beq_toListBytes]
  · cases h
    simpa [keyEq, keyEq1] using k
  · cases h
theorem findNow_mfind [DrK] {d : TypeDesc} {k : Value} : ∀ (es : List MapEntry) (i : Nat) (f f' : Option (Nat × Value)), Instr.findNow d k es i = some f' → mfind k es i = some f → f' = f
  | [], _, _, _, h, h' => by simp only [Instr.findNow, mfind, Option.some.injEq] at h h'; rw [← h, ← h']
  | e :: es, i, f, f', h, h' => by
    unfold Instr.findNow at h
    unfold mfind at h'
    split at h
    · rename_i hs
      split at h'
      · cases h; cases h'; rfl
      · rename_i hk; have := sameNow_keyEq hs hk; cases this
      · cases h'
    · rename_i hs
      split at h'
      · rename_i hk; have := sameNow_keyEq hs hk; cases this
      · exact findNow_mfind es (i + 1) f f' h h'
      · cases h'
    · cases h
theorem findAsking_run [DrK] {t : TypeId} {k : Value} (ho : eqOk P t) (hf : keyFit P t k = true) (w : World) : ∀ (es : List MapEntry) (i : Nat) (f : Option (Nat × Value)), mfind k es i = some f →
    (Instr.findAsking t k es i).run P w = .ok f w
  | [], i, f, h => by simp only [mfind, Option.some.injEq] at h; subst h; simp [Instr.findAsking]
  | e :: es, i, f, h => by
    unfold mfind at h
    split at h
    · rename_i hk; cases h; simp [Instr.findAsking, keyEq_run ho hf hk]
    · rename_i hk; simp [Instr.findAsking, keyEq_run ho hf hk, findAsking_run ho hf w es (i + 1) f h]
    · cases h
theorem findKey_run [DrK] {t : TypeId} {k : Value} (ho : eqOk P t) (hf : keyFit P t k = true) {es : List MapEntry} {f : Option (Nat × Value)} (h : mfind k es 0 = some f) (w : World) : (Instr.findKey t k es).run P w = .ok f w := by
  obtain ⟨d, hu⟩ : ∃ d, P.underlying t = some d := by
    unfold keyFit at hf
    cases hu : P.underlying t with
    | none => rw [hu] at hf; simp at hf
    | some d => exact ⟨d, rfl⟩
  unfold Instr.findKey
  rw [Sem.run_bind, run_underlying hu, Result.andThen_ok]
  split
  · rename_i r hr
    rw [findNow_mfind es 0 f r hr h]; rfl
  · exact findAsking_run ho hf w es 0 f h
theorem checkKey_run [DrK] {t : TypeId} {k : Value} (hf : keyFit P t k = true) (em : Bool) (n : Nat) (w : World) : (Instr.checkKey em (n + 2) t k).run P w = .ok () w := by
  unfold keyFit at hf
  split at hf
  · rename_i fs vs hu
    rw [Instr.checkKey]
    simp only [Sem.run_bind, run_underlying hu, Result.andThen_ok]
    rw [← Array.forIn_toList]
    have key : ∀ (l : List Field) (i : Nat) (us : List Value), us = vs.drop i → fitF P i l us = true →
        (forIn l PUnit.unit (fun (f : Field) (_ : PUnit) => (do
          if f.name ≠ "_" then do
            Instr.checkKey em (n + 1) f.type (← part f.type ⟨vs⟩ f.offset)
            pure (ForInStep.yield PUnit.unit)
          else pure (ForInStep.yield PUnit.unit) : Sem (ForInStep PUnit)))).run P w = .ok PUnit.unit w := by
      intro l
      induction l with
      | nil => intro i us _ _; simp
      | cons f l ih =>
        intro i us hus hfit
        cases us with
        | nil => simp [fitF] at hfit
        | cons u us =>
          simp only [fitF, Bool.and_eq_true, beq_iff_eq] at hfit
          obtain ⟨⟨hoff, h1⟩, h2⟩ := hfit
          have hxi : vs[i]? = some u := by
            have := List.getElem?_drop (xs := vs) (i := i) (j := 0)
            rw [← hus] at this; simpa using this.symm
          have hus' : us = vs.drop (i + 1) := by rw [← List.drop_drop, ← hus]; rfl
          have hrest := ih (i + 1) us hus' h2
          split at h1
          · rename_i d hd
            have hp := part_run (partX_one (cs := vs) (off := f.offset) hd h1 (by rw [hoff]; exact hxi)) w
            have hc : (Instr.checkKey em (n + 1) f.type u).run P w = .ok () w := by
              cases d <;> simp [fit1] at h1 <;> simp [Instr.checkKey, run_underlying hd]
            simp only [List.forIn_cons, Sem.run_bind]
            by_cases hn : f.name = "_"
            · simp only [hn, ne_eq, not_true_eq_false, if_false, Sem.run_pure, Result.andThen_ok]
              exact hrest
            · simp only [hn, ne_eq, not_false_eq_true, if_true, Sem.run_bind, hp, hc, Sem.run_pure, Result.andThen_ok]
              exact hrest
          · cases h1
    have := key fs.toList 0 vs rfl hf
    rw [this]; rfl
  · rename_i v x' v' d hu hn
    cases d <;> simp [fit1] at hf <;> simp [Instr.checkKey, run_underlying hu]
  · cases hf
end
end Go.Proofs.YtgkmcnafkhdlnaaGreat
