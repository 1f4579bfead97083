/- The executor of YtgkmcnafkhdlnaaGreatCore is right: a step. -/
import Derived.Test.YtgkmcnafkhdlnaaGreatSound7
set_option linter.unusedSimpArgs false
set_option linter.unusedVariables false
namespace Go.Proofs.YtgkmcnafkhdlnaaGreat
open Go Go.RowKit
section
variable {P : Program} {wr : Bool} {V0 : View} {w0 : World}

theorem pureX_opX [DrK] {bx : List Box} {op : Op} {ρ : Operand → Option RV} {r : RV} (h : pureX P bx op ρ = some r) (VS : Option View) (ty : TypeId) (V : View) :
    floats P op = true ∧ (∀ c a b, op ≠ .pick c a b) ∧ opX P wr VS bx op ty ρ V (fun r' _ _ => r' = some r) := by
  unfold pureX at h
  split at h
  · exact ⟨rfl, (by intros; simp), by simp only [opX]; exact h⟩
  · exact ⟨rfl, (by intros; simp), by simp only [opX]; exact h⟩
  · split at h
    · rename_i b hx
      cases h
      exact ⟨rfl, (by intros; simp), by simp only [opX, hx]⟩
    · cases h
  · refine ⟨rfl, (by intros; simp), ?_⟩
    split at h <;> first
      | (cases h; done)
      | (rename_i hx hy
         split at h
         · rename_i hk
           cases h
           simp only [opX, hx, hy, eqX, binX, kk, hk]
         · cases h)
      | (rename_i hx hy
         cases h
         simp only [opX, hx, hy, eqX, binX])
  · split at h
    · rename_i o ft i off hf hx
      split at h
      · cases h
      · rename_i hne
        cases h
        exact ⟨rfl, (by intros; simp), by simp only [opX, hf, hx]; rw [if_neg hne]; trivial⟩
    · cases h
  · split at h
    · rename_i i off hx
      split at h
      · rename_i v b t cs hb
        cases hp : partX P _ cs off with
        | none => rw [hp] at h; cases h
        | some u =>
          rw [hp] at h
          cases h
          exact ⟨rfl, (by intros; simp), by simp only [opX, hx, hb, hp]⟩
      · cases h
    · cases h
  · split at h
    · rename_i args ats _ _ t x hts hargs
      split at h
      · rename_i s hu hx
        cases h
        have et : ats[0]? = some t := by rw [← Array.getElem?_toList, hts]; rfl
        refine ⟨by simp [floats, et, hu], (by intros; simp), ?_⟩
        simp only [opX, hts, hargs, vals, hx, toV, hu]
      · rename_i el a n c hu hx
        cases h
        have et : ats[0]? = some t := by rw [← Array.getElem?_toList, hts]; rfl
        refine ⟨by simp [floats, et, hu], (by intros; simp), ?_⟩
        simp only [opX, hts, hargs, vals, hx, toV, hu]
      · cases h
    · cases h
  · cases h
theorem iteV_spec {g : Bool} {x y r : RV} (h : iteV g x y = some r) (bx : List Box) : r.val bx = if g = true then x.val bx else y.val bx := by
  unfold iteV at h
  split at h
  · cases h; cases g <;> rfl
  · split at h
    · rename_i k a k' b hk
      cases of_decide_eq_true hk
      cases h; cases g <;> rfl
    · cases h
  · cases h; cases g <;> rfl
  · cases h
theorem condRes_sub {known : List (Nat × Bool)} : ∀ (l l' : List (Nat × Bool)), condRes known l = some l' → ∀ p ∈ l', p ∈ l
  | [], l', h => by simp only [condRes, Option.some.injEq] at h; subst h; exact fun p hp => hp
  | (t, b) :: r, l', h => by
    unfold condRes at h
    split at h
    · exact fun p hp => List.mem_cons_of_mem _ (condRes_sub r l' h p hp)
    · cases h
    · cases hc : condRes known r with
      | none => rw [hc] at h; cases h
      | some l =>
        rw [hc] at h
        cases h
        intro p hp
        rcases List.mem_cons.1 hp with rfl | hp
        · exact List.mem_cons_self ..
        · exact List.mem_cons_of_mem _ (condRes_sub r l hc p hp)

/-- What is asked of the worlds that are good. -/
def GoodFor [DrK] (VS : Option View) (dr : Dr) (V0 : View) (w0 w : World) (st : St) (op : Op) (G : World → Prop) : Prop :=
  ∀ (bx : List Box) (V : View), BxRel st.boxes bx → Inv V0 w0 V w bx → drLoad P dr op bx = true → isLoad P op = true → ∀ w', G w' → Good (VS.getD V) bx w'
/-- Behind a step that is no floating one. -/
def Loud (ea : Bool) (ra : RA) (VS : Option View) (dr : Dr) (C : St → View → Prop) (st : St) (V : View) : Prop :=
  C st V ∧ ∀ bx0, dr = some bx0 → ea = true → sameB [] 0 bx0 st.boxes = true ∧ (ra.held = true → ∃ S, VS = some S ∧ S.Le V)
theorem Then.mono [DrK] {st : St} {o : Oper} {a : Act} {C C' : St → View → Prop} {v : Value} {w : World} (h : Then V0 w0 st o a C v w) (hc : ∀ st V, C st V → C' st V) : Then V0 w0 st o a C' v w := by
  obtain ⟨st', V', h1, h2, h3, h4⟩ := h
  exact ⟨st', V', h1, h2, h3, hc _ _ h4⟩
theorem afterX_loud {ea : Bool} {ra : RA} {VS : Option View} {dr : Dr} {st' : St} {V' : View} {C : St → View → Prop} (h : afterX false ea ra.held VS dr st' V' C) : Loud ea ra VS dr C st' V' := by
  unfold afterX at h
  split at h
  · rename_i bx0 he
    split at h
    · rename_i hs
      split at h
      · rename_i S hh
        exact ⟨h.2, fun bx0' e _ => by cases e; exact ⟨hs, fun _ => ⟨S, rfl, h.1⟩⟩⟩
      · rename_i hh
        exact ⟨h, fun bx0' e _ => by cases e; exact ⟨hs, fun e => by rw [hh] at e; cases e⟩⟩
      · exact h.elim
    · exact h.elim
  · rename_i hn
    exact ⟨h, fun bx0 e he => absurd he (fun he => hn bx0 e rfl he)⟩
theorem opE_float [DrK] {ops : Array Oper} {o : Oper} {VS : Option View} {bx : List Box} {ρ : Operand → Option RV} {V : View} {C : Option RV → List Box → View → Prop} (hf : floats P o.op = true) (h : opE P wr ops VS bx o ρ V C) : opX P wr VS bx o.op o.type ρ V C := by
  unfold opE at h
  split at h
  · rename_i it ho
    rw [ho] at hf; simp [floats] at hf
  · exact h
theorem opE_loud [DrK] {ops : Array Oper} {o : Oper} {VS : Option View} {bx : List Box} {ρ : Operand → Option RV} {η : Operand → Value} {V : View} {w : World} {C : Option RV → List Box → View → Prop} (hf : floats P o.op = false) (hρ : ∀ x r, ρ x = some r → η x = r.val bx) (hi : Inv V0 w0 V w bx) (h : opE P wr ops VS bx o ρ V C) : OpOk P V0 w0 η o bx w C := by
  by_cases he : ∃ it, o.op = .entry it
  · obtain ⟨it, ho⟩ := he
    exact lv_entry ho hρ hi h
  · unfold opE at h
    split at h
    · rename_i it ho; exact absurd ⟨it, ho⟩ he
    · exact opX_loud hf rfl hρ hi h
theorem opStep_spec [DrK] {ops : Array Oper} {ea : Bool} {ra : RA} {VS : Option View} {dr : Dr} {i : Nat} {o : Oper} {st st0 : St} {V : View} {C : St → View → Prop} {a : Act} {w : World} {G : World → Prop}
    (hpick : ∀ c a b, o.op ≠ .pick c a b) (hw : Region.wanted o (yielded ops a.tmps) = true) (ha : Agr st a) (hi : Inv V0 w0 V w st.boxes) (h0 : StRel st0 st) (hG : GoodFor (P := P) VS dr V0 w0 w st o.op G)
    (h : opStep P wr ops ra VS dr ea i o [] st V C) : StepOk P ops V0 w0 st0 o G a w C (Loud ea ra VS dr C) := by
  unfold opStep at h
  obtain ⟨st1, V1, ha1, hi1, hr1, hg1, h⟩ := openX_spec ra.opens i st V _ a w ha hi h
  split at h
  · exact h.elim
  · rename_i hdl
    have hρ := ha1.rv (Hold.nil st1.gam)
    have fin : ∀ (r : Option RV) (bx : List Box) (V' : View) (v : Value) (w' : World) (C'' : St → View → Prop), (∀ rv, r = some rv → rv.val bx = v) → Inv V0 w0 V' w' bx → BxRel st1.boxes bx →
        closeX P ra.closes i (({ st1 with boxes := bx } : St).leave o [] r) V' C'' → Then V0 w0 st0 o a C'' v w' := by
      intro r bx V' v w' C'' hrv hi' hb hc
      have ha2 := (ha1.boxes hb).leave (ctx := []) (fun p hp => by cases hp) (o := o) (v := v) (r := r) (fun _ => hrv) (fun hn => absurd (Hold.nil _) hn)
      have hi2 : Inv V0 w0 V' w' (({ st1 with boxes := bx } : St).leave o [] r).boxes := by rw [leave_rest]; exact hi'
      obtain ⟨st3, V3, ha3, hi3, hr3, hc3⟩ := closeX_spec ra.closes i _ V' C'' _ w' ha2 hi2 hc
      exact ⟨st3, V3, ha3, hi3, ((h0.trans hr1).trans (boxes_rel hb)).trans ((leave_rel _ _ _ _).trans hr3), hc3⟩
    cases hf : floats P o.op with
    | true =>
      rw [hf] at h
      obtain ⟨v, r, hv, hrv, hc⟩ := opX_float hf hpick rfl hρ (opE_float hf h)
      refine .fl hw hf v (fun w' hw' => hv w' (fun hl => hG st1.boxes V1 hr1.boxes hi1 hdl hl w' (hw' hl))) ?_
      refine fin r st1.boxes V1 v w C hrv hi1 (BxRel.refl _) ?_
      have e : ∀ st' V', afterX true ea ra.held VS dr st' V' C = C st' V' := fun st' V' => by cases dr <;> rfl
      simp only [e] at hc
      exact hc
    | false =>
      have hop := opE_loud hf hρ hi1 h
      refine .loud hw hf ?_
      have fin2 : ∀ (v : Value) (w' : World), Leaves V0 w0 st1.boxes (fun r bx V' => closeX P ra.closes i (({ st1 with boxes := bx } : St).leave o [] r) V' fun st' V' =>
          afterX (floats P o.op) ea ra.held VS dr st' V' C) v w' → Then V0 w0 st0 o a (Loud ea ra VS dr C) v w' := by
        rintro v w' ⟨r, bx, V', hrv, hi', hb, hc⟩
        refine (fin r bx V' v w' _ hrv hi' hb hc).mono fun st' V' h' => ?_
        rw [hf] at h'
        exact afterX_loud h'
      unfold OpOk at hop
      split at hop
      · rename_i v w' hr; rw [hr]; exact fin2 v w' hop
      · rename_i w' hr; rw [hr]; exact fin2 _ w' hop
      · rename_i f args w' hr
        rw [hr]
        refine hop.mono ?_
        rintro e w'' ⟨v, rfl, hl⟩
        exact ⟨v, rfl, fin2 v w'' hl⟩
      · exact hop.elim

theorem wanted_guard [DrK] {ops : Array Oper} {o : Oper} {st : St} {a : Act} (ha : Agr st a) {j : Nat} {want : Bool} {d ver tag : Nat} {cs : List (Nat × Bool)} {g : Bool} (hg : o.guard = some (j, want)) (hd : (ops[j]?).bind (·.dst) = some d)
    (hs : st.slots[d]? = some (ver, some ⟨cs, some tag, .v (.bool g)⟩)) : Region.wanted o (yielded ops a.tmps) = true ↔ Hold st.gam (cs ++ [(tag, want)]) := by
  obtain ⟨g', hg1, hg2⟩ := ha.tag d ver _ tag hs rfl
  cases hg1
  have hw : Region.wanted o (yielded ops a.tmps) = (yielded ops a.tmps j == some want) := by simp [Region.wanted, hg]
  rw [hw, Hold.append]
  by_cases hc : Hold st.gam cs
  · have h1 := ha.ent d ver _ hs hc
    simp only [RV.val] at h1
    have hy : yielded ops a.tmps j = some g := by simp [yielded, hd, h1]
    rw [hy]
    constructor
    · intro h
      have : g = want := by simpa using h
      subst this
      exact ⟨hc, fun p hp => by rw [List.mem_singleton] at hp; subst hp; exact hg2⟩
    · rintro ⟨_, h2⟩
      have := h2 (tag, want) (List.mem_singleton.2 rfl)
      simp only at this
      rw [hg2] at this
      cases this
      simp
  · have h1 := ha.off d ver _ hs hc
    have hy : yielded ops a.tmps j = none := by simp [yielded, hd, h1, undef]
    rw [hy]
    exact ⟨fun h => by simp at h, fun h => absurd h.1 hc⟩
theorem iteV_bool {g : Bool} {x y r : RV} (h : iteV g x y = some r) : ∀ i off, r ≠ .box i off := by
  unfold iteV at h
  split at h
  · cases h; intros; simp
  · split at h
    · cases h; intros; simp
    · cases h
  · cases h; intros; simp
  · cases h
theorem stepX_spec [DrK] {ops : Array Oper} {ea : Bool} {ra : RA} {VS : Option View} {dr : Dr} {i : Nat} {o : Oper} {st : St} {V : View} {C : St → View → Prop} {a : Act} {w : World} {G : World → Prop}
    (ha : Agr st a) (hi : Inv V0 w0 V w st.boxes) (hG : GoodFor (P := P) VS dr V0 w0 w st o.op G) (h : stepX P wr ops ra VS dr ea i o st V C) : StepOk P ops V0 w0 st o G a w C (Loud ea ra VS dr C) := by
  unfold stepX at h
  split at h
  · exact h.elim
  · -- it is left out
    rename_i hm
    have hw : Region.wanted o (yielded ops a.tmps) = false := by
      split at hm
      · cases hm
      · rename_i j want hgd
        split at hm
        · rename_i d hd
          split at hm
          · rename_i ver cs tag g hs
            simp only [Option.some.injEq] at hm
            have h1 := (condRes_spec ha.kn (cs ++ [(tag, want)])).1 hm
            have h2 := wanted_guard ha hgd hd hs
            cases hh : Region.wanted o (yielded ops a.tmps) with
            | false => rfl
            | true => exact absurd (h2.1 hh) h1
          · rename_i ver tag vs hs
            have h1 := ha.ent d ver _ hs (Hold.nil _)
            simp only [RV.val] at h1
            have hy : yielded ops a.tmps j = none := by simp [yielded, hd, h1]
            simp [Region.wanted, hgd, hy]
          · cases hm
        · cases hm
    refine .off hw ⟨_, V, ha.leave (ctx := []) (fun p hp => by cases hp) (fun _ rv e => by cases e; rfl) (fun hn => absurd (Hold.nil _) hn), ?_, leave_rel _ _ _ _, h⟩
    rw [leave_rest]; exact hi
  · rename_i ctx hm
    have hctx : InGam st.gam ctx ∧ (Region.wanted o (yielded ops a.tmps) = true ↔ Hold st.gam ctx) := by
      split at hm
      · rename_i hgd
        cases hm
        exact ⟨fun p hp => (by cases hp), fun _ => Hold.nil _, fun _ => by simp [Region.wanted, hgd]⟩
      · rename_i j want hgd
        split at hm
        · rename_i d hd
          split at hm
          · rename_i ver cs tag g hs
            simp only [Option.some.injEq] at hm
            have h1 := (condRes_spec ha.kn (cs ++ [(tag, want)])).2 _ hm
            have h2 := wanted_guard ha hgd hd hs
            refine ⟨fun p hp => ?_, h2.trans h1⟩
            rcases List.mem_append.1 (condRes_sub _ _ hm p hp) with hp | hp
            · exact ha.ing d ver _ hs p hp
            · rw [List.mem_singleton] at hp
              subst hp
              obtain ⟨g', _, h3⟩ := ha.tag d ver _ tag hs rfl
              exact (List.getElem?_eq_some_iff.1 h3).1
          · cases hm
          · cases hm
        · cases hm
    obtain ⟨hig, hwant⟩ := hctx
    have hoff : ∀ {b : Bool}, b = Region.wanted o (yielded ops a.tmps) → ¬ Hold st.gam ctx → Region.wanted o (yielded ops a.tmps) = false := fun _ hn => by
      cases hh : Region.wanted o (yielded ops a.tmps) with
      | false => rfl
      | true => exact absurd (hwant.1 hh) hn
    -- what gives one value, under the conditions
    have pure : ∀ (r : RV), (isLoad P o.op = true → ∀ w', G w' → Hold st.gam ctx → (execOp a.eval o).run P w' = .ok (.value (r.val st.boxes)) w') → floats P o.op = true →
        (isLoad P o.op = false → ∀ w', Hold st.gam ctx → (execOp a.eval o).run P w' = .ok (.value (r.val st.boxes)) w') → ∀ st', (∀ v, (Hold st.gam ctx → r.val st.boxes = v) → (¬ Hold st.gam ctx → v = undef) → Agr st' (a.put o.dst v)) → st'.boxes = st.boxes → StRel st st' → C st' V → StepOk P ops V0 w0 st o G a w C (Loud ea ra VS dr C) := by
      intro r h1 hf h2 st' hagr hbx hrel hc
      by_cases hh : Hold st.gam ctx
      · refine .fl (hwant.2 hh) hf (r.val st.boxes) (fun w' hw' => ?_) ⟨st', V, hagr _ (fun _ => rfl) (fun hn => absurd hh hn), by rw [hbx]; exact hi, hrel, hc⟩
        cases hl : isLoad P o.op with
        | true => exact h1 hl w' (hw' hl) hh
        | false => exact h2 hl w' hh
      · exact .off (hoff rfl hh) ⟨st', V, hagr _ (fun h => absurd h hh) (fun _ => rfl), by rw [hbx]; exact hi, hrel, hc⟩
    split at h
    · -- a copy
      rename_i t hop
      split at h
      · rename_i cs g he
        refine pure (.v (.bool g)) (fun hl => by rw [hop] at hl; cases hl) (by rw [hop]; rfl) (fun _ w' hh => ?_) _ (fun v hv hn => ha.leave hig (fun hh rv e => by cases e; exact hv hh) hn) (leave_rest _ _ _ _) (leave_rel _ _ _ _) h
        have h1 := (ha.entry hh he).1
        simp [execOp, hop, Act.eval, Array.getD_eq_getD_getElem?, h1]
      · rename_i e _ he
        refine pure e.rv (fun hl => by rw [hop] at hl; cases hl) (by rw [hop]; rfl) (fun _ w' hh => ?_) _ (fun v hv hn => ?_) (st.set_rest _ _).1 (st.set_rel _ _) h
        · have h1 := (ha.entry hh he).1
          simp [execOp, hop, Act.eval, Array.getD_eq_getD_getElem?, h1]
        · obtain ⟨ver, hs⟩ : ∃ ver, st.slots[t]? = some (ver, some e) := by
            unfold St.entry at he
            split at he
            · rename_i ver e' hs
              split at he
              · cases he; exact ⟨ver, hs⟩
              · cases he
            · cases he
          exact ha.set hig hv hn (fun n hn' => ha.tag t ver e n hs hn') (ha.rng t ver e hs)
      · -- nothing is known of it
        by_cases hh : Hold st.gam ctx
        · exact .fl (hwant.2 hh) (by rw [hop]; rfl) (a.eval (.tmp t)) (fun w' _ => by simp [execOp, hop]) ⟨_, V, ha.setNone, by rw [(st.set_rest _ _).1]; exact hi, st.set_rel _ _, h⟩
        · exact .off (hoff rfl hh) ⟨_, V, ha.setNone, by rw [(st.set_rest _ _).1]; exact hi, st.set_rel _ _, h⟩
    · -- pick
      rename_i c x y hop
      split at h
      · rename_i t
        split at h
        · rename_i cs tag g he
          split at h
          · rename_i r hr
            refine pure r (fun hl => by rw [hop] at hl; cases hl) (by rw [hop]; rfl) (fun _ w' hh => ?_) _ (fun v hv hn => ha.leave hig (fun hh rv e => by cases e; exact hv hh) hn) (leave_rest _ _ _ _) (leave_rel _ _ _ _) h
            obtain ⟨h1, ver, hs⟩ := ha.entry hh he
            simp only [RV.val] at h1
            obtain ⟨g', hg1, hg2⟩ := ha.tag t ver _ tag hs rfl
            cases hg1
            have ec : a.eval (.tmp t) = .bool g := by simp [Act.eval, Array.getD_eq_getD_getElem?, h1]
            have hp : r.val st.boxes = if g = true then a.eval x else a.eval y := by
              unfold pickX at hr
              split at hr
              · rename_i hm
                have := ha.kn _ (memC_spec _ _ _ hm)
                rw [hg2] at this
                cases this
                rw [if_pos rfl]; exact (ha.rv hh x r hr).symm
              · rename_i hm hm1
                have := ha.kn _ (memC_spec _ _ _ hm)
                rw [hg2] at this
                cases this
                rw [if_neg (by simp)]; exact (ha.rv hh y r hr).symm
              · split at hr
                · rename_i rx ry hx hy
                  rw [iteV_spec hr]
                  cases g with
                  | true =>
                    have := ha.rv (ctx := ctx ++ [(tag, true)]) (Hold.append.2 ⟨hh, fun p hp => by rw [List.mem_singleton] at hp; subst hp; exact hg2⟩) x rx hx
                    simp [this]
                  | false =>
                    have := ha.rv (ctx := ctx ++ [(tag, false)]) (Hold.append.2 ⟨hh, fun p hp => by rw [List.mem_singleton] at hp; subst hp; exact hg2⟩) y ry hy
                    simp [this]
                · cases hr
            cases g <;> simp [execOp, hop, ec, asBool, hp]
          · exact h.elim
        · exact h.elim
      · exact h.elim
    · rename_i hnm hnp
      have hpick : ∀ c a b, o.op ≠ .pick c a b := fun c a b e => hnp c a b e
      split at h
      · exact opStep_spec hpick (hwant.2 (Hold.nil _)) ha hi (StRel.refl _) hG h
      · rename_i hne
        split at h
        · rename_i r hr
          split at hr
          · rename_i hdl
            obtain ⟨hf, hp2, hox⟩ := pureX_opX hr (wr := wr) VS o.type V
            have hrun : ∀ w', (isLoad P o.op = true → G w') → Hold st.gam ctx → (execOp a.eval o).run P w' = .ok (.value (r.val st.boxes)) w' := fun w' hw' hh => by
              obtain ⟨v, r', hv, hrv, hc⟩ := opX_float hf hpick rfl (ha.rv hh) hox
              subst hc
              rw [hrv r rfl]
              exact hv w' (fun hl => hG st.boxes V (BxRel.refl _) hi hdl hl w' (hw' hl))
            exact pure r (fun hl w' hw' hh => hrun w' (fun _ => hw') hh) hf (fun hl w' hh => hrun w' (fun e => by rw [hl] at e; cases e) hh) _ (fun v hv hn => ha.leave hig (fun hh rv e => by cases e; exact hv hh) hn) (leave_rest _ _ _ _) (leave_rel _ _ _ _) h
          · cases hr
        · rcases brs_spec ctx st.known _ _ ha.kn h with ⟨hh, kn, hk, h⟩ | ⟨hh, kn, hk, h⟩
          · have ha' : Agr { st with known := kn } a := ⟨ha.len, ha.ent, ha.off, ha.tag, ha.rng, ha.ing, hk, ha.df⟩
            exact opStep_spec hpick (hwant.2 hh) ha' hi ⟨rfl, fun t v e h => ⟨v, e, h, Nat.le_refl _, fun _ => rfl⟩, BxRel.refl _⟩ (fun bx V hb => hG bx V hb) h
          · have ha' : Agr { st with known := kn } a := ⟨ha.len, ha.ent, ha.off, ha.tag, ha.rng, ha.ing, hk, ha.df⟩
            refine .off (hoff rfl hh) ⟨_, V, ha'.leave (ctx := []) (fun p hp => by cases hp) (fun _ rv e => by cases e; rfl) (fun hn => absurd (Hold.nil _) hn), ?_, ?_, h⟩
            · rw [leave_rest]; exact hi
            · have := leave_rel { st with known := kn } o [] (some (.v undef))
              exact ⟨this.len, this.slots, this.boxes⟩
end
end Go.Proofs.YtgkmcnafkhdlnaaGreat
