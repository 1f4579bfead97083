/- The executor of YtgkmcnafkhdlnaaGreatCore is right: code, and functions. -/
import Derived.Test.YtgkmcnafkhdlnaaGreatSoundA
set_option linter.unusedSimpArgs false
set_option linter.unusedVariables false
namespace Go.Proofs.YtgkmcnafkhdlnaaGreat
open Go Go.RowKit
section
variable {P : Program} {wr : Bool} {V0 : View} {w0 : World}

/-- What writing leaves as it was. -/
structure Wrote (ss : List Nat) (bs : List Nat) (a b : St) : Prop where
  rel : StRel a b
  blen : b.boxes.length = a.boxes.length
  gam : b.gam = a.gam
  kn : b.known = a.known
  keep : ∀ t, t ∉ ss → b.slots[t]? = a.slots[t]?
  bkeep : ∀ i, i ∉ bs → b.boxes[i]? = a.boxes[i]?
theorem Wrote.refl [DrK] (ss bs : List Nat) (a : St) : Wrote ss bs a a := ⟨StRel.refl _, rfl, rfl, rfl, fun _ _ => rfl, fun _ _ => rfl⟩
theorem Wrote.trans [DrK] {ss bs : List Nat} {a b c : St} (h : Wrote ss bs a b) (k : Wrote ss bs b c) : Wrote ss bs a c :=
  ⟨h.rel.trans k.rel, k.blen.trans h.blen, k.gam.trans h.gam, k.kn.trans h.kn, fun t ht => (k.keep t ht).trans (h.keep t ht), fun t ht => (k.bkeep t ht).trans (h.bkeep t ht)⟩
theorem Wrote.bump [DrK] {ss bs : List Nat} (a : St) (d : Nat) (e : Option SE) (hd : d ∈ ss) : Wrote ss bs a (a.bump d e) := by
  obtain ⟨r1, r2, r3, r4⟩ := a.set_rest (some d) e
  refine ⟨a.set_rel _ _, by rw [show (a.bump d e).boxes = a.boxes from r1], r2, r3, fun t ht => ?_, fun i _ => by rw [show (a.bump d e).boxes = a.boxes from r1]⟩
  rw [bump_get, if_neg (fun h => ht (by rw [h]; exact hd))]
theorem killS_wrote [DrK] {ss bs : List Nat} : ∀ (l : List Nat) (a : St), (∀ t ∈ l, t ∈ ss) → Wrote ss bs a (killS a l)
  | [], a, _ => Wrote.refl _ _ _
  | t :: l, a, h => (Wrote.bump a t none (h t (List.mem_cons_self ..))).trans (killS_wrote l _ (fun t ht => h t (List.mem_cons_of_mem _ ht)))
theorem writeS_wrote [DrK] {ss bs : List Nat} : ∀ (l : List (Nat × K)) (vs : List Value) (a : St), (∀ p ∈ l, p.1 ∈ ss) → Wrote ss bs a (writeS a l vs)
  | [], _, a, _ => Wrote.refl _ _ _
  | (t, k) :: l, [], a, _ => Wrote.refl _ _ _
  | (t, k) :: l, v :: vs, a, h => (Wrote.bump a t _ (h _ (List.mem_cons_self ..))).trans (writeS_wrote l vs _ (fun p hp => h p (List.mem_cons_of_mem _ hp)))
theorem writeB_wrote [DrK] {ss bs : List Nat} : ∀ (l : List (Nat × List K)) (vs : List Value) (a : St), (∀ p ∈ l, p.1 ∈ bs) → Wrote ss bs a (writeB a l vs)
  | [], _, a, _ => Wrote.refl _ _ _
  | (i, ks) :: l, vs, a, h => by
    refine Wrote.trans (b := { a with boxes := boxSet a.boxes i (vs.take ks.length) }) ?_ (writeB_wrote l (vs.drop ks.length) _ (fun p hp => h p (List.mem_cons_of_mem _ hp)))
    refine ⟨boxes_rel (BxRel.boxSet _ _ _), ?_, rfl, rfl, fun _ _ => rfl, fun j hj => ?_⟩
    · show (boxSet a.boxes i _).length = _
      unfold boxSet
      split <;> simp
    · show (boxSet a.boxes i _)[j]? = _
      rw [boxSet_get, if_neg (fun e => hj (by rw [e]; exact h _ (List.mem_cons_self ..)))]
theorem write_wrote [DrK] (ss : SS) (a : St) (s : Ty ss.ks) : Wrote (ss.kill ++ ss.slots.map (·.1)) (ss.boxes.map (·.1)) a (ss.write a s) := by
  unfold SS.write
  refine Wrote.trans (killS_wrote ss.kill a (fun t ht => List.mem_append_left _ ht)) (Wrote.trans (writeS_wrote ss.slots _ _ (fun p hp => List.mem_append_right _ (List.mem_map_of_mem hp))) (writeB_wrote ss.boxes _ _ (fun p hp => List.mem_map_of_mem hp)))
theorem sameS_refl (ok : List Nat) : ∀ (k : Nat) (l : List (Nat × Option SE)), sameS ok k l l = true
  | _, [] => rfl
  | k, (v, e) :: l => by simp [sameS, sameS_refl ok (k + 1) l]
theorem sameB_refl (ok : List Nat) : ∀ (k : Nat) (l : List Box), sameB ok k l l = true
  | _, [] => rfl
  | k, b :: l => by simp [sameB, sameB_refl ok (k + 1) l]
theorem AgrB.base [DrK] {st : St} {a : Act} (h : AgrB st a) : ∀ (t ver : Nat) (e : SE), st.slots[t]? = some (ver, some e) → e.conds = [] ∧ e.tag = none ∧ ∀ i off, e.rv = .box i off → i < st.boxes.length :=
  fun t ver e he => ⟨(h.conds he).1, (h.conds he).2, h.agr.rng t ver e he⟩

/-- Where code ends. -/
def EndsB [DrK] (V0 : View) (w0 : World) (st0 : St) (C : St → View → Prop) (a : Act) (w : World) : Prop := ∃ st' V', AgrB st' a ∧ Inv V0 w0 V' w st'.boxes ∧ StRel st0 st' ∧ C st' V'
def QofX [DrK] (V0 : View) (w0 : World) (st0 : St) (C : Ex → St → View → Prop) : Exit → Act → World → Prop
  | .normal, a, w => EndsB V0 w0 st0 (C .normal) a w
  | .exit id, a, w => EndsB V0 w0 st0 (C (.exit id)) a w
  | .ret, a, w => EndsB V0 w0 st0 (C .ret) a w
  | _, _, _ => False
theorem EndsB.mono [DrK] {st0 st1 : St} {C C' : St → View → Prop} {a : Act} {w : World} (h : EndsB V0 w0 st1 C a w) (hr : StRel st0 st1) (hc : ∀ st V, C st V → C' st V) : EndsB V0 w0 st0 C' a w := by
  obtain ⟨st', V', h1, h2, h3, h4⟩ := h
  exact ⟨st', V', h1, h2, hr.trans h3, hc _ _ h4⟩
/-- Through a join, or not. -/
theorem joinX_ok [DrK] {j : Option SS} {st : St} {body : (St → View → Prop) → Prop} {k : St → View → Prop} (h : joinX j st body k) {a0 : Act} (h0 : AgrB st a0) :
    ∃ K, body K ∧ ∀ a w, EndsB V0 w0 st K a w → EndsB V0 w0 st k a w := by
  unfold joinX at h
  split at h
  · exact ⟨k, h, fun _ _ h => h⟩
  · rename_i ss
    obtain ⟨J, h, hJ⟩ := h
    refine ⟨_, h, ?_⟩
    rintro a w ⟨st', V', h1, h2, h3, h4⟩
    unfold SS.again at h4
    split at h4
    · rename_i s hs hrd
      rw [unc_cur] at h4
      have h4 := hJ _ _ h4
      rw [unc_cur, SS.writeK_eq] at h4
      obtain ⟨h5, h6⟩ := write_ok (base := st) (st1 := st) h0.gam h0.kn h0.base rfl rfl (fun _ _ => rfl) (fun _ _ => rfl) (BxRel.refl _) h1 h2 h3 hs hrd
      exact ⟨_, V', h5, h6, (write_wrote ss st s).rel, h4⟩
    · exact h4.elim
theorem fst_join : ∀ (a b : List K) (s : Ty a) (t : Ty b), fstTy a b (joinTy a b s t) = s ∧ sndTy a b (joinTy a b s t) = t
  | [], _, (), _ => ⟨rfl, rfl⟩
  | _ :: a, b, (x, s), t => by
    obtain ⟨h1, h2⟩ := fst_join a b s t
    exact ⟨by simp only [joinTy, fstTy, h1], by simp only [joinTy, sndTy]; exact h2⟩
/-- New boxes are put behind the others. -/
theorem addN_ok [DrK] {k : St → Prop} {st' : St} {a : Act} {V' : View} {w : World} {n0 : Nat} (h1 : AgrB st' a) (h2 : Inv V0 w0 V' w st'.boxes) :
    ∀ (news : List New) (l : List Value) (is : List Nat) (st1 : St) (used : Nat → Prop), readN st' n0 news = some (l, is) → AgrB st1 a → Inv V0 w0 V' w st1.boxes →
      (∀ (j : Nat) (c : Box), st1.boxes[j]? = some c → ∃ i c', used i ∧ st'.boxes[i]? = some c' ∧ c'.blk = c.blk) → (∀ i ∈ is, ¬ used i) → addN news l st1 k →
      ∃ st2, AgrB st2 a ∧ Inv V0 w0 V' w st2.boxes ∧ StRel st1 st2 ∧ k st2
  | [], l, is, st1, used, hrd, ha, hi, _, _, h => ⟨st1, ha, hi, StRel.refl _, h⟩
  | n :: r, l, is, st1, used, hrd, ha, hi, hu, hnu, h => by
    unfold readN at hrd
    split at hrd
    · rename_i v0 tg i l2 is2 hsl hrd2
      split at hrd
      · rename_i ver blk ty cs hbx
        split at hrd
        · rename_i hc
          simp only [Option.some.injEq, Prod.mk.injEq] at hrd
          obtain ⟨rfl, rfl⟩ := hrd
          simp only [Bool.and_eq_true, beq_iff_eq, Nat.ble_eq, Bool.not_eq_true'] at hc
          obtain ⟨⟨⟨hn0, hty⟩, hcl⟩, hnc⟩ := hc
          have hni : i ∉ is2 := fun h => by
            rw [List.contains_eq_mem, decide_eq_true h] at hnc; cases hnc
          unfold addN at h
          have h := h blk
          rw [St.force_eq, ← hcl, List.take_left, List.drop_left] at h
          obtain ⟨r1, r2, r3, r4⟩ := st1.set_rest (some n.slot) (some ⟨[], none, .box st1.boxes.length 0⟩)
          have hset : StRel st1 (st1.bump n.slot (some ⟨[], none, .box st1.boxes.length 0⟩)) := st1.set_rel _ _
          have hb1 : (st1.bump n.slot (some ⟨[], none, .box st1.boxes.length 0⟩)).boxes = st1.boxes := r1
          have hnew := h2.boxes.shut i _ cs hbx rfl
          have hlo := h2.boxes.lo i _ hbx
          have htmp : a.tmps[n.slot]? = some (.pointer (some ⟨blk, 0, none⟩)) := by
            have := h1.agr.ent n.slot v0 _ hsl (Hold.nil _)
            rw [this]
            simp [RV.val, hbx]
          have hbx2 : ∀ (j : Nat) (c : Box), (st1.boxes ++ [(⟨0, blk, n.ty, some cs⟩ : Box)])[j]? = some c → (st1.boxes[j]? = some c) ∨ (j = st1.boxes.length ∧ c = ⟨0, blk, n.ty, some cs⟩) := by
            intro j c hj
            by_cases hlt : j < st1.boxes.length
            · rw [List.getElem?_append_left hlt] at hj; exact .inl hj
            · rw [List.getElem?_append_right (by omega)] at hj
              have hj2 : j - st1.boxes.length = 0 := by
                have := (List.getElem?_eq_some_iff.1 hj).1
                simp at this; omega
              rw [hj2] at hj
              cases hj
              exact .inr ⟨by omega, rfl⟩
          have hrel : StRel st1 { st1.bump n.slot (some ⟨[], none, .box st1.boxes.length 0⟩) with boxes := st1.boxes ++ [(⟨0, blk, n.ty, some cs⟩ : Box)] } := hset.trans (boxes_rel (by rw [hb1]; exact BxRel.push _ _))
          have ha2 : AgrB { st1.bump n.slot (some ⟨[], none, .box st1.boxes.length 0⟩) with boxes := st1.boxes ++ [(⟨0, blk, n.ty, some cs⟩ : Box)] } a := by
            refine AgrB.mk' ?_ (show (st1.bump n.slot _).gam = [] from by rw [show (st1.bump n.slot _).gam = st1.gam from r2]; exact ha.gam) (show (st1.bump n.slot _).known = [] from by rw [show (st1.bump n.slot _).known = st1.known from r3]; exact ha.kn) ha.agr.df fun t ver e he => ?_
            · show (st1.bump n.slot _).slots.length = _
              rw [show (st1.bump n.slot _).slots.length = st1.slots.length from r4]; exact ha.agr.len
            · change (st1.bump n.slot (some ⟨[], none, .box st1.boxes.length 0⟩)).slots[t]? = some (ver, some e) at he
              rw [bump_get] at he
              split at he
              · rename_i ht
                subst ht
                split at he
                · simp only [Option.some.injEq, Prod.mk.injEq] at he
                  obtain ⟨_, rfl⟩ := he
                  refine ⟨rfl, rfl, ?_, fun j off hj => ?_⟩
                  · rw [htmp]; simp [RV.val]
                  · cases hj; simp
                · cases he
              · have hold := ha.conds he
                have hrng := ha.agr.rng t ver e he
                refine ⟨hold.1, hold.2, ?_, fun j off hj => ?_⟩
                · have := ha.agr.ent t ver e he (by rw [hold.1]; exact Hold.nil _)
                  rw [this, val_rel (BxRel.push _ _) hrng]
                · have := hrng j off hj
                  simp; omega
          have hi2 : Inv V0 w0 V' w (st1.boxes ++ [(⟨0, blk, n.ty, some cs⟩ : Box)]) := by
            refine ⟨hi.isIn, hi.fr, ⟨fun j c hj => ?_, fun j c ds hj hd => ?_, fun j m c d hj hm e => ?_⟩⟩
            · rcases hbx2 j c hj with h9 | ⟨_, rfl⟩
              · exact hi.boxes.lo j c h9
              · exact hlo
            · rcases hbx2 j c hj with h9 | ⟨_, rfl⟩
              · exact hi.boxes.shut j c ds h9 hd
              · cases hd
                rw [← hty]; exact hnew
            · have other : ∀ {j : Nat} {c : Box}, st1.boxes[j]? = some c → c.blk ≠ blk := by
                intro j c hj e
                obtain ⟨i', c', hus, hb', hbe⟩ := hu j c hj
                have := h2.boxes.ne i' i c' _ hb' hbx (hbe.trans e)
                subst this
                exact hnu _ (List.mem_cons_self ..) hus
              rcases hbx2 j c hj with h9 | ⟨rfl, rfl⟩ <;> rcases hbx2 m d hm with h8 | ⟨rfl, rfl⟩
              · exact hi.boxes.ne j m c d h9 h8 e
              · exact absurd e (other h9)
              · exact absurd e.symm (other h8)
              · rfl
          obtain ⟨st2, k1, k2, k3, k4⟩ := addN_ok h1 h2 r l2 is2 _ (fun j => used j ∨ j = i) hrd2 ha2 hi2 (fun j c hj => by
            rcases hbx2 j c hj with h9 | ⟨_, rfl⟩
            · obtain ⟨i', c', hus, hb', hbe⟩ := hu j c h9
              exact ⟨i', c', .inl hus, hb', hbe⟩
            · exact ⟨i, _, .inr rfl, hbx, rfl⟩) (fun j hj => by
            rintro (hus | rfl)
            · exact hnu j (List.mem_cons_of_mem _ hj) hus
            · exact hni hj) h
          exact ⟨st2, k1, k2, hrel.trans k3, k4⟩
        · cases hrd
      · cases hrd
    · cases hrd
theorem readN_ge {st' : St} {n0 : Nat} : ∀ {news : List New} {l : List Value} {is : List Nat}, readN st' n0 news = some (l, is) → ∀ i ∈ is, n0 ≤ i
  | [], l, is, h, i, hi => by
    simp only [readN, Option.some.injEq, Prod.mk.injEq] at h
    rw [← h.2] at hi; cases hi
  | n :: r, l, is, h, i, hi => by
    unfold readN at h
    split at h
    · rename_i v0 tg j l2 is2 hsl hrd2
      split at h
      · split at h
        · rename_i hc
          simp only [Option.some.injEq, Prod.mk.injEq] at h
          obtain ⟨_, rfl⟩ := h
          simp only [Bool.and_eq_true, Nat.ble_eq] at hc
          rcases List.mem_cons.1 hi with rfl | hi
          · exact hc.1.1.1
          · exact readN_ge hrd2 i hi
        · cases h
      · cases h
    · cases h
/-- Through a join behind which there are new boxes. -/
theorem joinN_ok [DrK] {j : Option SS} {news : List New} {st : St} {body : (St → View → Prop) → Prop} {k : St → View → Prop} (h : joinN j news st body k) {a0 : Act} (h0 : AgrB st a0) :
    ∃ K, body K ∧ ∀ a w, EndsB V0 w0 st K a w → EndsB V0 w0 st k a w := by
  unfold joinN at h
  split at h
  · exact h.elim
  · rename_i ss
    obtain ⟨J, h, hJ⟩ := h
    refine ⟨_, h, ?_⟩
    rintro a w ⟨st', V', h1, h2, h3, h4⟩
    unfold againN at h4
    split at h4
    · rename_i s l is hs hrd hrn
      split at h4
      · rename_i s2 hd
        rw [unc_cur] at h4
        have h4 := hJ _ _ h4
        rw [unc_cur, SS.writeK_eq, (fst_join _ _ s s2).1, (fst_join _ _ s s2).2, ups_dns _ _ _ hd] at h4
        obtain ⟨h5, h6⟩ := write_ok (base := st) (st1 := st) h0.gam h0.kn h0.base rfl rfl (fun _ _ => rfl) (fun _ _ => rfl) (BxRel.refl _) h1 h2 h3 hs hrd
        have hW := write_wrote ss st s
        obtain ⟨st2, k1, k2, k3, k4⟩ := addN_ok h1 h2 news l is (ss.write st s) (fun i => i < st.boxes.length) hrn h5 h6 (fun j c hj => by
          have hjl : j < st.boxes.length := by rw [← hW.blen]; exact (List.getElem?_eq_some_iff.1 hj).1
          obtain ⟨c1, hc1, _, ⟨e1, _⟩, _⟩ := hW.rel.boxes j _ (List.getElem?_eq_getElem hjl)
          rw [hj] at hc1
          cases hc1
          obtain ⟨c2, hc2, _, ⟨e2, _⟩, _⟩ := h3.boxes j _ (List.getElem?_eq_getElem hjl)
          exact ⟨j, c2, hjl, hc2, by rw [e1, e2]⟩) (fun i hi hlt => by have := readN_ge hrn i hi; omega) h4
        exact ⟨st2, V', k1, k2, hW.rel.trans k3, k4⟩
      · exact h4.elim
    · exact h4.elim
/-- Rounds, until one leaves. -/
def LoopW (P : Program) (c : Code) (Q : Exit → Act → World → Prop) (a : Act) (w : World) : Prop :=
  ∀ (b : Frame) (k : List Item) (cs : List Frame), ∃ e a' w', Q e a' w' ∧ Arrives P (lone (b.at a (.code c :: .inLoop c :: k)) cs w) b k cs e a' w'
theorem LoopW.wp {c : Code} {Q : Exit → Act → World → Prop} {a : Act} {w : World} (h : LoopW P c Q a w) : (Code.loop c).wp P Q a w := fun b k cs =>
  let ⟨e, a', w', hq, harr⟩ := h b k cs
  ⟨e, a', w', hq, .of_steps (.one step_loop) harr⟩
theorem LoopW.round {c : Code} {Q : Exit → Act → World → Prop} {a : Act} {w : World} (h : c.wp P (Exit.then (LoopW P c Q) Q) a w) : LoopW P c Q a w := by
  intro b k cs
  obtain ⟨e, a₁, w₁, hq, harr⟩ := h b (.inLoop c :: k) cs
  cases e with
  | normal =>
    obtain ⟨e₂, a₂, w₂, hq₂, harr₂⟩ := hq b k cs
    exact ⟨e₂, a₂, w₂, hq₂, .of_steps (Steps.trans harr (.one step_inLoop)) harr₂⟩
  | exit id => exact ⟨_, a₁, w₁, hq, .pass (x := .inLoop c) rfl (fun _ _ => .inl (by simp)) harr⟩
  | goto l => exact ⟨_, a₁, w₁, hq, .pass (x := .inLoop c) rfl (fun _ _ => .inl (by simp)) harr⟩
  | ret => exact ⟨_, a₁, w₁, hq, .pass (x := .inLoop c) rfl (fun _ _ => .inl (by simp)) harr⟩
  | panic ch => exact ⟨_, a₁, w₁, hq, .pass (x := .inLoop c) rfl (fun _ _ => .inl (by simp)) harr⟩
  | outgrown => exact ⟨_, a₁, w₁, hq, .pass (x := .inLoop c) rfl (fun _ _ => .inl (by simp)) harr⟩
theorem X_sound [DrK] (hm : P.follows .mixedOrders = true) : ∀ (ac : AC) (c : Code) (st : St) (V : View) (C : Ex → St → View → Prop) (a : Act) (w : World), AgrB st a → Inv V0 w0 V w st.boxes → X P wr ac c st V C → c.wp P (QofX V0 w0 st C) a w := by
  intro ac
  induction ac with
  | leaf =>
    intro c st V C a w ha hi h
    cases c <;> first
      | exact h.elim
      | exact wp_skip ⟨st, V, ha, hi, StRel.refl _, h⟩
      | exact wp_exit ⟨st, V, ha, hi, StRel.refl _, h⟩
      | exact wp_ret ⟨st, V, ha, hi, StRel.refl _, h⟩
  | reg ra =>
    intro c st V C a w ha hi h
    cases c with
    | region id ops draw =>
      unfold X at h
      simp only [St.force_eq] at h
      obtain ⟨K, h, hK⟩ := joinX_ok (V0 := V0) (w0 := w0) h ha
      have hQ : ∀ a' w', Ends V0 w0 st (fun st' V' => K (st.ended st') V') a' w' → QofX V0 w0 st C .normal a' w' := by
        rintro a' w' ⟨st', V', h1, h2, h3, h4⟩
        obtain ⟨h5, h6⟩ := ended_ok ha h1 h3
        exact hK _ _ ⟨_, V', h5, h2, h6, h4⟩
      have draws : ∀ (S : View), drOk P ops ra.sched → (ra.held = false → ∀ i, S.see i = none) → S.Sees w → runT P wr ops ra (some st.boxes) (some S) ra.sched st V (fun st' V' => K (st.ended st') V') → (Code.region id ops true).wp P (QofX V0 w0 st C) a w := by
        intro S hd hheld hsees h
        unfold drOk at hd
        split at hd
        · rename_i hd1
          simp only [Bool.and_eq_true, beq_iff_eq] at hd1
          obtain ⟨⟨hs, hd2⟩, hlen⟩ := hd1
          refine wp_region_any hm (wpAny_of_E (bx0 := st.boxes) (E := eOf P ops) _ S _ _ _ ?_)
          have hi1 : Inv V0 w0 V { w with drawn := w.drawn + 1 } st.boxes := ⟨⟨hi.isIn.size, hi.isIn.see, hi.isIn.out⟩, ⟨hi.fr.size, hi.fr.hid, fun x => Nat.le_trans (hi.fr.drawn x) (Nat.le_succ _)⟩, ⟨hi.boxes.lo, hi.boxes.shut, hi.boxes.ne⟩⟩
          have key := (runT_draw hs hQ (fun _ _ _ h => h) ra.sched).1 S hheld (Array.replicate ops.size false) false st V a _ hd2 (by
            intro j o ho hj
            exfalso
            rw [Array.getD_eq_getD_getElem?] at hj
            simp only [Array.getElem?_replicate] at hj
            split at hj <;> simp at hj) ha.agr hi1 (StRel.refl _) (BxRel.refl _) (fun _ => ⟨hsees, hi1.good.shut⟩) h
          rw [hlen] at key
          exact key
        · exact hd.elim
      cases draw with
      | false => exact wp_region (runX_seq hQ (List.range ops.size) st V a w ha.agr hi (StRel.refl _) h)
      | true =>
        cases hh : ra.held with
        | true =>
          rw [hh] at h
          obtain ⟨hd, S, hle, h⟩ := h
          exact draws S hd (fun e => by rw [hh] at e; cases e) (fun i o hs => hi.isIn.see i o (hle.see i o hs)) h
        | false =>
          rw [hh] at h
          obtain ⟨hd, h⟩ := h
          exact draws V.nil hd (fun _ _ => rfl) (fun i o hs => by cases hs) h
    | _ => exact h.elim
  | regn ra news =>
    intro c st V C a w ha hi h
    cases c with
    | region id ops draw =>
      unfold X at h
      simp only [St.force_eq] at h
      obtain ⟨K, h, hK⟩ := joinN_ok (V0 := V0) (w0 := w0) h ha
      have hQ : ∀ a' w', Ends V0 w0 st (fun st' V' => K (st.ended st') V') a' w' → QofX V0 w0 st C .normal a' w' := by
        rintro a' w' ⟨st', V', h1, h2, h3, h4⟩
        obtain ⟨h5, h6⟩ := ended_ok ha h1 h3
        exact hK _ _ ⟨_, V', h5, h2, h6, h4⟩
      have draws : ∀ (S : View), drOk P ops ra.sched → (ra.held = false → ∀ i, S.see i = none) → S.Sees w → runT P wr ops ra (some st.boxes) (some S) ra.sched st V (fun st' V' => K (st.ended st') V') → (Code.region id ops true).wp P (QofX V0 w0 st C) a w := by
        intro S hd hheld hsees h
        unfold drOk at hd
        split at hd
        · rename_i hd1
          simp only [Bool.and_eq_true, beq_iff_eq] at hd1
          obtain ⟨⟨hs, hd2⟩, hlen⟩ := hd1
          refine wp_region_any hm (wpAny_of_E (bx0 := st.boxes) (E := eOf P ops) _ S _ _ _ ?_)
          have hi1 : Inv V0 w0 V { w with drawn := w.drawn + 1 } st.boxes := ⟨⟨hi.isIn.size, hi.isIn.see, hi.isIn.out⟩, ⟨hi.fr.size, hi.fr.hid, fun x => Nat.le_trans (hi.fr.drawn x) (Nat.le_succ _)⟩, ⟨hi.boxes.lo, hi.boxes.shut, hi.boxes.ne⟩⟩
          have key := (runT_draw hs hQ (fun _ _ _ h => h) ra.sched).1 S hheld (Array.replicate ops.size false) false st V a _ hd2 (by
            intro j o ho hj
            exfalso
            rw [Array.getD_eq_getD_getElem?] at hj
            simp only [Array.getElem?_replicate] at hj
            split at hj <;> simp at hj) ha.agr hi1 (StRel.refl _) (BxRel.refl _) (fun _ => ⟨hsees, hi1.good.shut⟩) h
          rw [hlen] at key
          exact key
        · exact hd.elim
      cases draw with
      | false => exact wp_region (runX_seq hQ (List.range ops.size) st V a w ha.agr hi (StRel.refl _) h)
      | true =>
        cases hh : ra.held with
        | true =>
          rw [hh] at h
          obtain ⟨hd, S, hle, h⟩ := h
          exact draws S hd (fun e => by rw [hh] at e; cases e) (fun i o hs => hi.isIn.see i o (hle.see i o hs)) h
        | false =>
          rw [hh] at h
          obtain ⟨hd, h⟩ := h
          exact draws V.nil hd (fun _ _ => rfl) (fun i o hs => by cases hs) h
    | _ => exact h.elim
  | seq x y ihx ihy =>
    intro c st V C a w ha hi h
    cases c with
    | seq cx cy =>
      unfold X at h
      refine wp_seq (wp_mono (ihx cx st V _ a w ha hi h) fun e a' w' hq => ?_)
      cases e with
      | normal =>
        obtain ⟨st', V', h1, h2, h3, h4⟩ := hq
        exact wp_mono (ihy cy st' V' C a' w' h1 h2 h4) fun e a'' w'' hq' => by
          cases e <;> first
            | exact EndsB.mono hq' h3 (fun _ _ h => h)
            | exact hq'
      | _ => exact hq
    | _ => exact h.elim
  | cond j x y ihx ihy =>
    intro c st V C a w ha hi h
    cases c with
    | cond cc cx cy =>
      unfold X at h
      split at h
      · rename_i g hg
        have hev := ha.agr.rv (Hold.nil st.gam) cc _ hg
        simp only [RV.val] at hev
        obtain ⟨K, h, hK⟩ := joinX_ok (V0 := V0) (w0 := w0) h ha
        refine wp_cond_split hev (fun ht => ?_) (fun hf => ?_)
        · subst ht
          refine wp_mono (ihx cx st V _ a w ha hi h) fun e a' w' hq => ?_
          cases e <;> first
            | exact hK _ _ hq
            | exact hq
        · subst hf
          refine wp_mono (ihy cy st V _ a w ha hi h) fun e a' w' hq => ?_
          cases e <;> first
            | exact hK _ _ hq
            | exact hq
      · exact h.elim
    | _ => exact h.elim
  | block j x ihx =>
    intro c st V C a w ha hi h
    cases c with
    | block id cx =>
      unfold X at h
      obtain ⟨K, h, hK⟩ := joinX_ok (V0 := V0) (w0 := w0) h ha
      refine wp_block (wp_mono (ihx cx st V _ a w ha hi h) fun e a' w' hq => ?_)
      cases e with
      | normal => exact hK _ _ hq
      | exit i =>
        simp only [Exit.inBlock]
        by_cases hid : i = id
        · subst hid
          rw [if_pos rfl]
          refine hK _ _ (EndsB.mono hq (StRel.refl _) fun st' V' h' => ?_)
          simpa using h'
        · rw [if_neg hid]
          refine EndsB.mono hq (StRel.refl _) fun st' V' h' => ?_
          have : (i == id) = false := by simpa using hid
          simpa [this] using h'
      | _ => exact hq
    | _ => exact h.elim
  | loop ss x ihx =>
    intro c st V C a w ha hi h
    cases c with
    | loop cx =>
      unfold X at h
      split at h
      · rename_i s hrd
        have h0 := write_ok (base := st) (st1 := st) ha.gam ha.kn ha.base rfl rfl (fun _ _ => rfl) (fun _ _ => rfl) (BxRel.refl _) ha hi (StRel.refl _) (by unfold SS.same; simp [sameS_refl, sameB_refl]) hrd
        refine LoopW.wp ?_
        refine h (fun s V => ∀ a w, AgrB (ss.write st s) a → Inv V0 w0 V w (ss.write st s).boxes → LoopW P cx (QofX V0 w0 st C) a w) ?_ a w h0.1 h0.2
        rintro s V ⟨R, hR, hF⟩ a w ha1 hi1
        rw [uncF_curF, SS.writeK_eq] at hF
        refine LoopW.round (wp_mono (ihx cx (ss.write st s) V _ a w ha1 hi1 hF) fun e a' w' hq => ?_)
        have hW := write_wrote ss st s
        cases e with
        | normal =>
          obtain ⟨st', V', h1, h2, h3, h4⟩ := hq
          simp only at h4
          unfold SS.again at h4
          split at h4
          · rename_i s' hs hrd'
            rw [unc_cur] at h4
            have h5 := write_ok (base := st) (st1 := ss.write st s) ha.gam ha.kn ha.base hW.rel.len.symm hW.blen.symm (fun t ht => hW.keep t ht) (fun i hi => hW.bkeep i hi) hW.rel.boxes h1 h2 h3 hs hrd'
            exact hR s' V' h4 a' w' h5.1 h5.2
          · exact h4.elim
        | exit id => exact EndsB.mono hq hW.rel (fun _ _ h => h)
        | ret => exact EndsB.mono hq hW.rel (fun _ _ h => h)
        | _ => exact hq
      · exact h.elim
    | _ => exact h.elim
end
end Go.Proofs.YtgkmcnafkhdlnaaGreat
