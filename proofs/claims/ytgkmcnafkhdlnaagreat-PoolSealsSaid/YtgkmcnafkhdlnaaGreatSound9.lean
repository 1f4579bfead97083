/- The executor of YtgkmcnafkhdlnaaGreatCore is right: regions. -/
import Derived.Test.YtgkmcnafkhdlnaaGreatSound8
set_option linter.unusedSimpArgs false
set_option linter.unusedVariables false
namespace Go.Proofs.YtgkmcnafkhdlnaaGreat
open Go Go.RowKit
section
variable {P : Program} {wr : Bool} {V0 : View} {w0 : World}

/-- Where a region ends. -/
def Ends [DrK] (V0 : View) (w0 : World) (st0 : St) (C : St → View → Prop) (a : Act) (w : World) : Prop := ∃ st' V', Agr st' a ∧ Inv V0 w0 V' w st'.boxes ∧ StRel st0 st' ∧ C st' V'
theorem runX_seq [DrK] {ops : Array Oper} {ra : RA} {Q : Exit → Act → World → Prop} {C : St → View → Prop} {st0 : St} (hQ : ∀ a w, Ends V0 w0 st0 C a w → Q .normal a w) :
    ∀ (l : List Nat) (st : St) (V : View) (a : Act) (w : World), Agr st a → Inv V0 w0 V w st.boxes → StRel st0 st → runX P wr ops ra none none l st V C → wpOps P ops Q l a w
  | [], st, V, a, w, ha, hi, hr, h => hQ a w ⟨st, V, ha, hi, hr, h⟩
  | i :: l, st, V, a, w, ha, hi, hr, h => by
    unfold runX at h
    try simp only [St.force_eq] at h
    rw [wpOps_cons]
    split at h
    · rename_i o ho
      have key := stepX_spec (G := fun w' => w' = w) ha hi (fun bx V hb hi' _ _ w' hw' => by subst hw'; exact hi'.good) h
      have next : ∀ {C' : St → View → Prop} {v : Value} {w' : World}, (∀ st V, C' st V → runX P wr ops ra none none l st V C) → Then V0 w0 st o a C' v w' → wpOps P ops Q l (a.put o.dst v) w' := by
        rintro C' v w' hc ⟨st', V', h1, h2, h3, h4⟩
        exact runX_seq hQ l st' V' _ w' h1 h2 (hr.trans h3) (hc _ _ h4)
      unfold wpOp
      simp only [ho]
      cases key with
      | off hw k => rw [hw]; exact next (fun _ _ h => h) k
      | fl hw hf v hv k =>
        rw [hw, if_pos rfl]
        refine .inl ?_
        unfold Oper.wp
        rw [hv w (fun _ => rfl)]
        exact next (fun _ _ h => h) k
      | loud hw hf k =>
        rw [hw, if_pos rfl]
        refine .inl ?_
        unfold Oper.wp
        split at k
        · rename_i v w' hrun; rw [hrun]; exact next (fun _ _ h => h.1) k
        · rename_i w' hrun; rw [hrun]; exact next (fun _ _ h => h.1) k
        · rename_i f args w' hrun
          rw [hrun]
          refine Calls.mono k ?_
          rintro e w'' ⟨v, rfl, hk⟩
          exact next (fun _ _ h => h.1) hk
        · exact k.elim
    · exact h.elim

/-! ### a region that draws its order -/
section
variable {ops : Array Oper} {Q : Exit → Act → World → Prop} {md : Region.Mode} {bx0 : List Box} {E : Nat → Option Bool}
/-- What an operation owes to others that may come behind it: a floating one turns nothing; behind an early one S holds. -/
def Owes (S : World → Prop) (w w' : World) : Option Bool → Prop
  | none => w' = w
  | some true => S w'
  | some false => True
/-- Whatever order is picked from here on; behind the early ones what S sees holds, and S may grow. -/
def wpAnyE (P : Program) (md : Region.Mode) (ops : Array Oper) (Q : Exit → Act → World → Prop) (bx0 : List Box) (E : Nat → Option Bool) : Nat → View → Array Bool → Act → World → Prop
  | 0, _, listed, a, w => Region.ready md ops listed = [] ∧ Q .normal a w
  | fuel + 1, S, listed, a, w =>
    (Region.ready md ops listed = [] → Q .normal a w) ∧
    ∀ i ∈ Region.ready md ops listed, wpOp P ops Q i (fun a' w' => Owes (Good S bx0) w w' (E i) ∧ ∃ S' : View, S.Le S' ∧ wpAnyE P md ops Q bx0 E fuel S' (listed.setIfInBounds i true) a' w') a w
theorem wpAny_of_E : ∀ (fuel : Nat) (S : View) (listed : Array Bool) (a : Act) (w : World), wpAnyE P md ops Q bx0 E fuel S listed a w → wpAny P md ops Q fuel listed a w
  | 0, _, _, _, _, h => h
  | fuel + 1, _, _, _, _, h => ⟨h.1, fun i hi => wpOp_mono (fun a' w' ⟨_, S', _, h'⟩ => wpAny_of_E fuel S' _ a' w' h') (h.2 i hi)⟩
/-- What is listed has listed what it waits for. -/
def Closed (md : Region.Mode) (ops : Array Oper) (listed : Array Bool) : Prop := ∀ j o, ops[j]? = some o → listed.getD j false = true → ∀ e ∈ o.after, Region.binds md e = true → listed.getD e.on false = true
theorem Closed.ready {listed : Array Bool} (hc : Closed md ops listed) {i : Nat} (hi : i ∈ Region.ready md ops listed) : Closed md ops (listed.setIfInBounds i true) := by
  intro j o ho hj e he hb
  by_cases hji : i = j
  · subst hji
    obtain ⟨_, o', ho', hall⟩ := mem_ready.1 hi
    rw [ho] at ho'
    cases ho'
    exact getD_set_true (hall e he hb)
  · rw [getD_set_ne false hji] at hj
    exact getD_set_true (hc j o ho hj e he hb)
theorem wfold_bit {k : Nat} {acc : List Nat} {i : Nat} : ∀ (l : List Edge) (m : Nat), Nat.testBit (l.foldl (fun m e => match Region.binds .any e with
    | true => Nat.lor (Nat.lor m (2 ^ e.on)) (match Nat.blt e.on k with
      | true => acc.getD (k - 1 - e.on) 0
      | false => 0)
    | false => m) m) i = true → Nat.testBit m i = true ∨ ∃ e ∈ l, Region.binds .any e = true ∧ (e.on = i ∨ (e.on < k ∧ Nat.testBit (acc.getD (k - 1 - e.on) 0) i = true))
  | [], m, h => .inl h
  | e :: l, m, h => by
    rw [List.foldl_cons] at h
    rcases wfold_bit l _ h with h1 | ⟨e', he', h2⟩
    · cases hb : Region.binds .any e with
      | false => rw [hb] at h1; exact .inl h1
      | true =>
        rw [hb] at h1
        simp only at h1
        have h1 : Nat.testBit (m ||| 2 ^ e.on ||| (match Nat.blt e.on k with
          | true => acc.getD (k - 1 - e.on) 0
          | false => 0)) i = true := h1
        rw [Nat.testBit_or, Nat.testBit_or, Bool.or_eq_true, Bool.or_eq_true] at h1
        rcases h1 with (h1 | h1) | h1
        · exact .inl h1
        · rw [Nat.testBit_two_pow] at h1
          exact .inr ⟨e, by simp, hb, .inl (of_decide_eq_true h1)⟩
        · cases hk : Nat.blt e.on k with
          | false => rw [hk] at h1; simp at h1
          | true =>
            rw [hk] at h1
            exact .inr ⟨e, by simp, hb, .inr ⟨by simpa [Nat.blt_eq] using hk, h1⟩⟩
    · exact .inr ⟨e', by simp [he'], h2⟩
/-- What a row of the table says. -/
def WOk (ops : Array Oper) (listed : Array Bool) (j m : Nat) : Prop := ∀ i, Nat.testBit m i = true → ∀ o, ops[j]? = some o → (∀ e ∈ o.after, Region.binds .any e = true → listed.getD e.on false = true) → listed.getD i false = true
theorem wtab_ok [DrK] {ops : Array Oper} {listed : Array Bool} (hc : Closed .any ops listed) : ∀ (os : List Oper) (k : Nat) (acc : List Nat), os = ops.toList.drop k → k ≤ ops.size → acc.length = k → (∀ j, j < k → WOk ops listed j (acc.getD (k - 1 - j) 0)) →
    (wtab os k acc).length = ops.size ∧ ∀ j, j < ops.size → WOk ops listed j ((wtab os k acc).getD (ops.size - 1 - j) 0)
  | [], k, acc, hos, hk, hl, hacc => by
    have hks : k = ops.size := by
      have := congrArg List.length hos
      simp at this
      omega
    subst hks
    exact ⟨hl, hacc⟩
  | o :: os, k, acc, hos, hk, hl, hacc => by
    have hlt : k < ops.size := by
      have := congrArg List.length hos
      simp at this
      omega
    have hk0 : ops[k]? = some o := by
      have h1 : (ops.toList.drop k)[0]? = some o := by rw [← hos]; rfl
      rw [List.getElem?_drop, Nat.add_zero] at h1
      simpa using h1
    have hos' : os = ops.toList.drop (k + 1) := by
      have : (ops.toList.drop k).drop 1 = os := by rw [← hos]; rfl
      rw [← this, List.drop_drop]
    unfold wtab
    refine wtab_ok hc os (k + 1) _ hos' hlt (by simp [hl]) fun j hj => ?_
    by_cases hjk : j = k
    · subst hjk
      rw [show j + 1 - 1 - j = 0 by omega, List.getD_cons_zero]
      intro i hb o' ho' hdir
      rw [hk0] at ho'
      cases ho'
      rcases wfold_bit _ _ hb with h1 | ⟨e, he, hbi, h2⟩
      · simp at h1
      · have he' : e ∈ o.after := by simpa using he
        have hl1 := hdir e he' hbi
        rcases h2 with rfl | ⟨h3, h4⟩
        · exact hl1
        · have ho2 : ops[e.on]? = some ops[e.on] := Array.getElem?_eq_getElem (by omega)
          exact hacc e.on h3 i h4 _ ho2 fun e2 he2 hb2 => hc e.on _ ho2 hl1 e2 he2 hb2
    · have hjk' : j < k := by omega
      have e1 : k + 1 - 1 - j = (k - 1 - j) + 1 := by omega
      rw [e1, List.getD_cons_succ]
      exact hacc j hjk'
theorem waits_listed [DrK] {listed : Array Bool} (hc : Closed .any ops listed) (f j i : Nat) (h : waits ops f j i = true) (hj : ∀ o, ops[j]? = some o → ∀ e ∈ o.after, Region.binds .any e = true → listed.getD e.on false = true) : listed.getD i false = true := by
  unfold waits at h
  cases hb : Nat.blt j ops.size with
  | false => rw [hb] at h; cases h
  | true =>
    rw [hb] at h
    have hlt : j < ops.size := by simpa [Nat.blt_eq] using hb
    obtain ⟨_, h2⟩ := wtab_ok hc ops.toList 0 [] rfl (Nat.zero_le _) rfl fun j hj => absurd hj (Nat.not_lt_zero _)
    have ho : ops[j]? = some ops[j] := Array.getElem?_eq_getElem hlt
    exact h2 j hlt i h _ ho (hj _ ho)
/-- An operation that may come up now may be taken first. -/
theorem wpAnyE_first [DrK] {i : Nat} {oi : Oper} {v : Value} {Y : World → Prop} {S0 : View} (hi : ops[i]? = some oi) (hsel : ∀ (j : Nat) (o : Oper) cs b, ops[j]? = some o → o.op ≠ .select cs b)
    (hQ : ∀ c a w, Q (.panic c) (a.put oi.dst v) w → Q (.panic c) a w) (hY : ∀ j w w' (S : View), S0.Le S → j ≠ i → waits ops ops.size j i = false → Owes (Good S bx0) w w' (E j) → Y w → Y w') (hYi : E i = none) :
    ∀ (fuel : Nat) (S : View) (listed : Array Bool) (a : Act) (w : World), S0.Le S →
      (∀ j oj, ops[j]? = some oj → j ≠ i → listed.getD j true = false → (∀ e ∈ oj.after, Region.binds .any e = true → e.on ≠ i) → oi.apart ops oj = true) →
      Closed .any ops listed → i ∈ Region.ready .any ops listed → YieldsIf P ops Y oi v a → Y w →
      wpAnyE P .any ops Q bx0 E fuel S (listed.setIfInBounds i true) (a.put oi.dst v) w → wpAnyE P .any ops Q bx0 E (fuel + 1) S listed a w := by
  intro fuel
  induction fuel with
  | zero =>
    intro S listed a w hS0 _ hcl hr hy hS H
    refine ⟨fun h => (by rw [h] at hr; cases hr), fun j hj => ?_⟩
    by_cases hji : j = i
    · subst hji; exact hy.wpOp hi hS ⟨by rw [hYi]; rfl, S, View.Le.refl S, H⟩
    · have := ready_mono hj hji
      rw [H.1] at this
      cases this
  | succ fuel ih =>
    intro S listed a w hS0 hfree hcl hr hy hS H
    refine ⟨fun h => (by rw [h] at hr; cases hr), fun j hj => ?_⟩
    by_cases hji : j = i
    · subst hji; exact hy.wpOp hi hS ⟨by rw [hYi]; rfl, S, View.Le.refl S, H⟩
    · have h1 := H.2 j (ready_mono hj hji)
      obtain ⟨hjun, oj, hoj, hall⟩ := mem_ready.1 hj
      have hiun := (mem_ready.1 hr).1
      have hnot : ∀ e ∈ oj.after, Region.binds .any e = true → e.on ≠ i := fun e he hb heq => by
        have h1 := hall e he hb
        rw [heq] at h1
        rcases Nat.lt_or_ge i listed.size with h' | h'
        · simp [h'] at hiun h1; rw [hiun] at h1; cases h1
        · simp [Array.getElem?_eq_none h'] at h1
      have hw : waits ops ops.size j i = false := by
        cases hh : waits ops ops.size j i with
        | false => rfl
        | true =>
          have h2 := waits_listed hcl ops.size j i hh (fun o ho e he hb => by rw [hoj] at ho; cases ho; exact hall e he hb)
          rcases Nat.lt_or_ge i listed.size with h' | h'
          · simp [h'] at hiun h2; rw [hiun] at h2; cases h2
          · simp [Array.getElem?_eq_none h'] at h2
      have h2 := wpOp_putIf hoj (hfree j oj hoj hji hjun hnot) (fun cs b => hsel i oi cs b hi) (fun cs b => hsel j oj cs b hoj) hQ hy h1
      have hfree' : ∀ k ok, ops[k]? = some ok → k ≠ i → (listed.setIfInBounds j true).getD k true = false →
          (∀ e ∈ ok.after, Region.binds .any e = true → e.on ≠ i) → oi.apart ops ok = true := fun k ok hk hki hun hno => by
        refine hfree k ok hk hki ?_ hno
        by_cases hjk : j = k
        · subst hjk; exact hjun
        · rw [getD_set_ne true hjk] at hun; exact hun
      refine wpOp_mono (fun a' w' h3 => ?_) h2
      obtain ⟨h4, h5, S', h6, h7⟩ := h3
      refine ⟨h5, S', h6, ih S' (listed.setIfInBounds j true) a' w' (hS0.trans h6) hfree' (hcl.ready hj) (ready_mono hr (Ne.symm hji)) h4 (hY j w w' S hS0 hji hw h5 hS) ?_⟩
      rw [Array.setIfInBounds_comm _ _ hji]
      exact h7
end
/-- Of operation j: does it float; is it early? -/
def eOf (P : Program) (ops : Array Oper) (j : Nat) : Option Bool :=
  match ops[j]? with
  | some o => match floats P o.op with
    | true => none
    | false => some (early P ops j)
  | none => none
theorem early_of {ops : Array Oper} {i j : Nat} {oi : Oper} (hi : ops[i]? = some oi) (hl : isLoad P oi.op = true) (hne : j ≠ i) (hw : waits ops ops.size j i = false) : early P ops j = true := by
  unfold early
  rw [Bool.or_eq_true]
  left
  unfold early0
  rw [List.any_eq_true]
  refine ⟨i, List.mem_range.2 (Array.getElem?_eq_some_iff.1 hi).1, ?_⟩
  simp [hi, hl, hw, Ne.symm hne]
theorem sameB_get : ∀ (ok : List Nat) (k : Nat) (bx bx' : List Box), sameB ok k bx bx' = true → ∀ (i : Nat) (b b' : Box), bx[i]? = some b → bx'[i]? = some b' → (b.ver = b'.ver ∨ (k + i) ∈ ok)
  | ok, k, [], _, _, i, b, b', hb, _ => by simp at hb
  | ok, k, x :: l, [], h, i, b, b', hb, hb' => by simp at hb'
  | ok, k, x :: l, y :: m, h, i, b, b', hb, hb' => by
    simp only [sameB, Bool.and_eq_true, Bool.or_eq_true, beq_iff_eq] at h
    cases i with
    | zero =>
      simp only [List.getElem?_cons_zero, Option.some.injEq] at hb hb'
      subst hb; subst hb'
      rcases h.1 with h1 | h1
      · exact .inl h1
      · exact .inr (by simpa using h1)
    | succ i =>
      simp only [List.getElem?_cons_succ] at hb hb'
      have := sameB_get ok (k + 1) l m h.2 i b b' hb hb'
      rwa [show k + 1 + i = k + (i + 1) by omega] at this
theorem good_of_same [DrK] {S : View} {bx0 bx : List Box} {w : World} (hr : BxRel bx0 bx) (hs : sameB [] 0 bx0 bx = true) (hS : S.Sees w) (hsh : ∀ (i : Nat) (b : Box) (cs : List Value), bx[i]? = some b → b.cells = some cs → w.heap[b.blk]? = some (.cells ⟨cs⟩ b.ty (0, 0))) : Good S bx0 w :=
  ⟨hS, fun i b cs hb hc => by
    obtain ⟨b', h1, h2, h3, h4⟩ := hr i b hb
    rcases sameB_get [] 0 bx0 bx hs i b b' hb h1 with h5 | h5
    · have := h4 h5
      subst this
      exact hsh i b cs h1 hc
    · cases h5⟩
theorem andT_spec {r : DT} {A B : Prop} (h : andT r A B) : A ∧ (r = .no ∨ B) := by
  unfold andT at h
  split at h
  · exact ⟨h, .inl rfl⟩
  · exact ⟨h.1, .inr h.2⟩
section
variable {ops : Array Oper} {ra : RA} {bx0 : List Box} {Q : Exit → Act → World → Prop} {C : St → View → Prop} {st0 : St}
/-- Of a way: it goes on from every state. -/
def WayOk [DrK] (P : Program) (V0 : View) (w0 : World) (wr : Bool) (ops : Array Oper) (ra : RA) (bx0 : List Box) (Q : Exit → Act → World → Prop) (C : St → View → Prop) (st0 : St) (t : DT) : Prop :=
  ∀ (S : View), (ra.held = false → ∀ i, S.see i = none) → ∀ (listed : Array Bool) (dead : Bool) (st : St) (V : View) (a : Act) (w : World), drFrom P ops t true listed dead = true → Closed .any ops listed → Agr st a → Inv V0 w0 V w st.boxes → StRel st0 st → BxRel bx0 st.boxes →
      (dead = false → Good S bx0 w) → runT P wr ops ra (some bx0) (some S) t st V C → wpAnyE P .any ops Q bx0 (eOf P ops) t.depth S listed a w
theorem step_key [DrK] {S : View} {o : Oper} {ea : Bool} {i : Nat} {st : St} {V : View} {a : Act} {w : World} {K : St → View → Prop} (ha : Agr st a) (hi : Inv V0 w0 V w st.boxes) (hb : BxRel bx0 st.boxes)
    (h : stepX P wr ops ra (some S) (some bx0) ea i o st V K) : StepOk P ops V0 w0 st o (Good S bx0) a w K (Loud ea ra (some S) (some bx0) K) :=
  stepX_spec (G := Good S bx0) ha hi (fun bx V hbx hi' hdl hl w' hw' => by
        have hl2 : sameB [] 0 bx0 bx = true ∧ bx.length = bx0.length := by
          simp only [drLoad, hl] at hdl
          simpa using hdl
        have hr2 := hb.trans hbx
        refine ⟨hw'.isIn, fun k b cs hk hc => ?_⟩
        have hk0 : k < bx0.length := by rw [← hl2.2]; exact (List.getElem?_eq_some_iff.1 hk).1
        obtain ⟨b', h1, h2, h3, h4⟩ := hr2 k bx0[k] (List.getElem?_eq_getElem hk0)
        rw [hk] at h1
        cases h1
        rcases sameB_get [] 0 bx0 bx hl2.1 k _ _ (List.getElem?_eq_getElem hk0) hk with h5 | h5
        · have h6 := h4 h5
          exact h6 ▸ hw'.shut k bx0[k] cs (List.getElem?_eq_getElem hk0) (by rw [h6]; exact hc)
        · cases h5) h
theorem growT_spec {g : Bool} {S V : View} {K : Option View → Prop} (h : growT (g && ra.held) (some S) V K) (hh : ra.held = false → ∀ i, S.see i = none) :
    ∃ S' : View, S.Le S' ∧ K (some S') ∧ (S' = S ∨ S'.Le V) ∧ (ra.held = false → ∀ i, S'.see i = none) := by
  unfold growT at h
  split at h
  · rename_i S0 hg heq
    cases heq
    obtain ⟨S', h1, h2, h3⟩ := h
    refine ⟨S', h1, h3, .inr h2, fun hf => ?_⟩
    rw [hf, Bool.and_false] at hg
    cases hg
  · exact ⟨S, View.Le.refl S, h, .inl rfl, hh⟩
/-- A loud operation, taken now. -/
theorem loud_way [DrK] {t : DT} (iht : WayOk P V0 w0 wr ops ra bx0 Q C st0 t) {S : View} (hheld : ra.held = false → ∀ i, S.see i = none) {g : Bool}
    {i : Nat} {o : Oper} {listed : Array Bool} {dead : Bool} {st : St} {V : View} {a : Act} {w : World} (ho : ops[i]? = some o) (hf : floats P o.op = false) (hed : early P ops i = false ∨ dead = false) (hmem : i ∈ Region.ready .any ops listed)
    (hd : drFrom P ops t true (listed.setIfInBounds i true) (dead || !early P ops i) = true) (hcl : Closed .any ops listed) (ha : Agr st a) (hi : Inv V0 w0 V w st.boxes) (hr : StRel st0 st) (hb : BxRel bx0 st.boxes) (hg : dead = false → Good S bx0 w)
    (h : stepX P wr ops ra (some S) (some bx0) (early P ops i) i o st V fun st V => growT (g && ra.held) (some S) V fun VS => runT P wr ops ra (some bx0) VS t st V C) :
    wpOp P ops Q i (fun a' w' => Owes (Good S bx0) w w' (eOf P ops i) ∧ ∃ S' : View, S.Le S' ∧ wpAnyE P .any ops Q bx0 (eOf P ops) t.depth S' (listed.setIfInBounds i true) a' w') a w := by
  have key := step_key ha hi hb h
  have heN : eOf P ops i = some (early P ops i) := by simp [eOf, ho, hf]
  have goOn : ∀ {st' : St} {V' : View} {a' : Act} {w' : World}, Agr st' a' → Inv V0 w0 V' w' st'.boxes → StRel st st' → (growT (g && ra.held) (some S) V' fun VS => runT P wr ops ra (some bx0) VS t st' V' C) →
      ((dead || !early P ops i) = false → Good S bx0 w') → ∃ S' : View, S.Le S' ∧ wpAnyE P .any ops Q bx0 (eOf P ops) t.depth S' (listed.setIfInBounds i true) a' w' := by
    intro st' V' a' w' h1 h2 h3 h4 hgd
    obtain ⟨S', k1, k2, k3, k4⟩ := growT_spec h4 hheld
    refine ⟨S', k1, iht S' k4 _ _ st' V' a' w' hd (hcl.ready hmem) h1 h2 (hr.trans h3) (hb.trans h3.boxes) (fun hdd => ?_) k2⟩
    have hG := hgd hdd
    rcases k3 with rfl | k3
    · exact hG
    · exact ⟨fun i o ho => h2.isIn.see i o (k3.see i o ho), hG.shut⟩
  unfold wpOp
  simp only [ho, heN]
  cases key with
  | off hw k =>
    obtain ⟨st', V', h1, h2, h3, h4⟩ := k
    rw [hw, if_neg (by simp)]
    have hgd : early P ops i = true → Good S bx0 w := fun he => by
      rcases hed with h5 | h5
      · rw [he] at h5; cases h5
      · exact hg h5
    refine ⟨?_, goOn h1 h2 h3 h4 (fun hdd => ?_)⟩
    · cases he : early P ops i with
      | true => exact hgd he
      | false => trivial
    · simp only [Bool.or_eq_false_iff, Bool.not_eq_false'] at hdd
      exact hgd hdd.2
  | fl hw hf' v hv k => rw [hf] at hf'; cases hf'
  | loud hw hf' k =>
    rw [hw, if_pos rfl]
    refine .inl ?_
    have next : ∀ {v : Value} {w' : World}, Then V0 w0 st o a (Loud (early P ops i) ra (some S) (some bx0) fun st V => growT (g && ra.held) (some S) V fun VS => runT P wr ops ra (some bx0) VS t st V C) v w' →
        Owes (Good S bx0) w w' (some (early P ops i)) ∧ ∃ S' : View, S.Le S' ∧ wpAnyE P .any ops Q bx0 (eOf P ops) t.depth S' (listed.setIfInBounds i true) (a.put o.dst v) w' := by
      rintro v w' ⟨st', V', h1, h2, h3, h4, h5⟩
      have hgd : early P ops i = true → Good S bx0 w' := fun he => by
        obtain ⟨h6, h7⟩ := h5 bx0 rfl he
        refine good_of_same (hb.trans h3.boxes) h6 ?_ (fun i b cs hbx hc => (h2.boxes.shut i b cs hbx hc).2)
        cases hh : ra.held with
        | false => intro i o hi; rw [hheld hh i] at hi; cases hi
        | true =>
          obtain ⟨S', hS', hle⟩ := h7 hh
          cases hS'
          exact fun i o hi => h2.isIn.see i o (hle.see i o hi)
      refine ⟨?_, goOn h1 h2 h3 h4 (fun hdd => ?_)⟩
      · cases he : early P ops i with
        | true => exact hgd he
        | false => trivial
      · simp only [Bool.or_eq_false_iff, Bool.not_eq_false'] at hdd
        exact hgd hdd.2
    unfold Oper.wp
    split at k
    · rename_i v w' hrun; rw [hrun]; exact next k
    · rename_i w' hrun; rw [hrun]; exact next k
    · rename_i f args w' hrun
      rw [hrun]
      refine Calls.mono k ?_
      rintro e w'' ⟨v, rfl, hk⟩
      have := next hk
      exact this
    · exact k.elim
theorem runT_draw [DrK] (hs : Region.noSelect ops = true) (hQ : ∀ a w, Ends V0 w0 st0 C a w → Q .normal a w)
    (hQp : ∀ c a w, ¬ Q (.panic c) a w) :
    ∀ (t : DT), WayOk P V0 w0 wr ops ra bx0 Q C st0 t ∧
      ∀ (S : View), (ra.held = false → ∀ i, S.see i = none) → ∀ (listed : Array Bool) (dead : Bool) (st : St) (V : View) (a : Act) (w : World), drFrom P ops t false listed dead = true → Closed .any ops listed → Agr st a → Inv V0 w0 V w st.boxes → StRel st0 st → BxRel bx0 st.boxes →
        (dead = false → Good S bx0 w) → (∀ j ∈ t.heads, j ∈ Region.ready .any ops listed) → runT P wr ops ra (some bx0) (some S) t st V C →
        ∀ j ∈ t.heads, wpOp P ops Q j (fun a' w' => Owes (Good S bx0) w w' (eOf P ops j) ∧ ∃ S' : View, S.Le S' ∧ wpAnyE P .any ops Q bx0 (eOf P ops) (t.depth - 1) S' (listed.setIfInBounds j true) a' w') a w := by
  intro t
  induction t with
  | done =>
    refine ⟨fun S hheld listed dead st V a w hd hcl ha hi hr hb hg h => ?_, fun S hheld listed dead st V a w hd hcl ha hi hr hb hg hrd h j hj => by cases hj⟩
    simp only [drFrom, List.isEmpty_iff] at hd
    exact ⟨hd, hQ a w ⟨st, V, ha, hi, hr, h⟩⟩
  | no =>
    refine ⟨fun S hheld listed dead st V a w hd => ?_, fun S hheld listed dead st V a w hd hcl ha hi hr hb hg hrd h j hj => by cases hj⟩
    simp [drFrom] at hd
  | fl i t ih =>
    refine ⟨fun S hheld listed dead st V a w hd hcl ha hi hr hb hg h => ?_, fun S hheld listed dead st V a w hd hcl ha hi hr hb hg hrd h j hj => by cases hj⟩
    unfold runT at h
    try simp only [St.force_eq] at h
    unfold drFrom at hd
    split at h
    · rename_i o ho
      simp only [ho, Bool.and_eq_true, Bool.not_eq_true', Bool.and_eq_false_iff] at hd
      obtain ⟨⟨⟨⟨hf, hfree⟩, hready⟩, hload⟩, hd⟩ := hd
      have key := step_key ha hi hb h
      have hmem : i ∈ Region.ready .any ops listed := by simpa using hready
      have heN : eOf P ops i = none := by simp [eOf, ho, hf]
      obtain ⟨v, hy, st', V', h1, h2, h3, h4⟩ : ∃ v, YieldsIf P ops (fun w' => isLoad P o.op = true → Good S bx0 w') o v a ∧ ∃ st' V', Agr st' (a.put o.dst v) ∧ Inv V0 w0 V' w st'.boxes ∧ StRel st st' ∧ runT P wr ops ra (some bx0) (some S) t st' V' C := by
        cases key with
        | off hw k => exact ⟨undef, .inr ⟨hw, rfl⟩, k⟩
        | fl hw hf v hv k => exact ⟨v, .inl ⟨hw, hv⟩, k⟩
        | loud hw hf' k => rw [hf] at hf'; cases hf'
      have ih := ih.1 S hheld _ dead st' V' _ w hd (hcl.ready hmem) h1 h2 (hr.trans h3) (hb.trans h3.boxes) hg h4
      refine wpAnyE_first (S0 := S) (Y := fun w' => isLoad P o.op = true → Good S bx0 w') ho (Region.noSelect_spec hs) (fun c a w h => absurd h (hQp c _ _)) ?_ heN t.depth S listed a w (View.Le.refl S) (Region.free_spec ho hfree) hcl hmem hy ?_ ih
      · intro j w1 w2 T hST hne hwt howes hy1 hl
        unfold Owes eOf at howes
        cases hj : ops[j]? with
        | none => rw [hj] at howes; simp only at howes; rw [howes]; exact hy1 hl
        | some oj =>
          rw [hj] at howes
          simp only at howes
          cases hfj : floats P oj.op with
          | true => rw [hfj] at howes; simp only at howes; rw [howes]; exact hy1 hl
          | false =>
            rw [hfj] at howes
            simp only [early_of ho hl hne hwt] at howes
            exact ⟨fun i o ho => howes.isIn i o (hST.see i o ho), howes.shut⟩
      · intro hl
        rcases hload with h5 | h5
        · rw [hl] at h5; cases h5
        · exact hg h5
    · exact h.elim
  | alt i e g t r iht ihr =>
    have both : ∀ (top : Bool) (S : View), (ra.held = false → ∀ i, S.see i = none) → ∀ (listed : Array Bool) (dead : Bool) (st : St) (V : View) (a : Act) (w : World), drFrom P ops (.alt i e g t r) top listed dead = true → Closed .any ops listed → Agr st a → Inv V0 w0 V w st.boxes → StRel st0 st → BxRel bx0 st.boxes →
        (dead = false → Good S bx0 w) → (∀ j ∈ i :: r.heads, j ∈ Region.ready .any ops listed) → runT P wr ops ra (some bx0) (some S) (.alt i e g t r) st V C →
        ∀ j ∈ i :: r.heads, wpOp P ops Q j (fun a' w' => Owes (Good S bx0) w w' (eOf P ops j) ∧ ∃ S' : View, S.Le S' ∧ wpAnyE P .any ops Q bx0 (eOf P ops) t.depth S' (listed.setIfInBounds j true) a' w') a w := by
      intro top S hheld listed dead st V a w hd hcl ha hi hr hb hg hrd h j hj
      unfold runT at h
      obtain ⟨h1, h2⟩ := andT_spec h
      try simp only [St.force_eq] at h1
      unfold drFrom at hd
      split at h1
      · rename_i o ho
        simp only [ho, Bool.and_eq_true, Bool.not_eq_true', Bool.and_eq_false_iff] at hd
        obtain ⟨⟨⟨⟨⟨⟨hf, hea⟩, _⟩, hed⟩, hd1⟩, hdep⟩, hd2⟩ := hd
        have hea : e = early P ops i := by simpa using hea
        rw [hea] at h1
        rcases List.mem_cons.1 hj with rfl | hj
        · exact loud_way iht.1 hheld ho hf hed (hrd _ (by simp)) hd1 hcl ha hi hr hb hg h1
        · have hne : r ≠ .no := fun e => by subst e; cases hj
          have hdp : r.depth = t.depth + 1 := by
            simp only [Bool.or_eq_true, List.isEmpty_iff, beq_iff_eq] at hdep
            rcases hdep with h | h
            · rw [h] at hj; cases hj
            · exact h
          have := ihr.2 S hheld listed dead st V a w hd2 hcl ha hi hr hb hg (fun j hj => hrd j (by simp [hj])) (h2.resolve_left hne) j hj
          rw [hdp] at this
          exact this
      · exact h1.elim
    refine ⟨fun S hheld listed dead st V a w hd hcl ha hi hr hb hg h => ?_, fun S hheld listed dead st V a w hd hcl ha hi hr hb hg hrd h j hj => both false S hheld listed dead st V a w hd hcl ha hi hr hb hg hrd h j hj⟩
    have hready : Region.ready .any ops listed = i :: r.heads := by
      unfold drFrom at hd
      split at hd
      · simp only [Bool.and_eq_true, Bool.not_true, Bool.false_or, beq_iff_eq] at hd
        exact hd.1.1.1.1.2
      · cases hd
    refine ⟨(fun h0 => by rw [h0] at hready; cases hready), fun j hj => ?_⟩
    rw [hready] at hj
    exact both true S hheld listed dead st V a w hd hcl ha hi hr hb hg (fun j hj => by rw [hready]; exact hj) h j hj
end
end
end Go.Proofs.YtgkmcnafkhdlnaaGreat
