/- The executor of YtgkmcnafkhdlnaaGreatCore is right: one step of a region. -/
import Derived.Test.YtgkmcnafkhdlnaaGreatSound5
set_option linter.unusedSimpArgs false
set_option linter.unusedVariables false
namespace Go.Proofs.YtgkmcnafkhdlnaaGreat
open Go Go.RowKit
section
variable {P : Program} {wr : Bool} {VS : Option View} {bx : List Box} {ρ : Operand → Option RV} {η : Operand → Value} {V0 V : View} {w0 w : World} {o : Oper}

theorem opX_loud [DrK] {op : Op} {C : Option RV → List Box → View → Prop} (hf : floats P op = false) (ho : o.op = op) (hρ : ∀ x r, ρ x = some r → η x = r.val bx) (hi : Inv V0 w0 V w bx) (h : opX P wr VS bx op o.type ρ V C) : OpOk P V0 w0 η o bx w C := by
  cases op with
  | alloc t => exact lv_alloc ho hi h
  | box t x => exact lv_box ho hρ hi h
  | makeMap t r => exact lv_makeMap ho hi h
  | makeSlice t l c => exact lv_makeSlice ho hρ hi h
  | buildSlice t l ps => exact lv_buildSlice ho hρ hi h
  | store t x y => exact lv_store ho hρ hi h
  | convert s d x => exact lv_convert hf ho hρ hi h
  | mapUpdate t x i y => exact lv_mapUpdate ho hρ hi h
  | mapEntry t x i => exact lv_mapEntry ho hρ hi h
  | entryStore t x s y => exact lv_entryStore ho hρ hi h
  | range t x => exact lv_range ho hρ hi h
  | next it s => cases s with
    | true => exact h.elim
    | false => exact lv_next ho hρ hi h
  | call c =>
    obtain ⟨callee, args, ats⟩ := c
    cases callee with
    | builtin b => exact lv_builtin hf ho hρ hi h
    | value f => exact lv_call ho hρ hi h
    | invoke r m => exact h.elim
  | _ => first
    | (simp [floats] at hf; done)
    | exact h.elim

/-- The conditions hold. -/
def Hold (gam : List Bool) (l : List (Nat × Bool)) : Prop := ∀ p ∈ l, gam[p.1]? = some p.2
theorem Hold.nil (gam : List Bool) : Hold gam [] := fun _ h => by cases h
theorem Hold.append {gam : List Bool} {l m : List (Nat × Bool)} : Hold gam (l ++ m) ↔ Hold gam l ∧ Hold gam m :=
  ⟨fun h => ⟨fun p hp => h p (List.mem_append_left _ hp), fun p hp => h p (List.mem_append_right _ hp)⟩, fun h p hp => (List.mem_append.1 hp).elim (h.1 p) (h.2 p)⟩
theorem Hold.cons {gam : List Bool} {p : Nat × Bool} {l : List (Nat × Bool)} : Hold gam (p :: l) ↔ gam[p.1]? = some p.2 ∧ Hold gam l :=
  ⟨fun h => ⟨h p (List.mem_cons_self ..), fun q hq => h q (List.mem_cons_of_mem _ hq)⟩, fun h q hq => by
    rcases List.mem_cons.1 hq with rfl | hq
    · exact h.1
    · exact h.2 q hq⟩
theorem memC_spec : ∀ (l : List (Nat × Bool)) (t : Nat) (b : Bool), memC l t b = true → (t, b) ∈ l
  | [], _, _, h => by simp [memC] at h
  | (t', b') :: l, t, b, h => by
    simp only [memC, Bool.or_eq_true, Bool.and_eq_true, beq_iff_eq] at h
    rcases h with ⟨rfl, rfl⟩ | h
    · exact List.mem_cons_self ..
    · exact List.mem_cons_of_mem _ (memC_spec l t b h)
theorem subC_spec [DrK] {l m : List (Nat × Bool)} (h : subC l m = true) {gam : List Bool} (hm : Hold gam m) : Hold gam l := fun p hp => by
  simp only [subC, List.all_eq_true] at h
  exact hm p (memC_spec m p.1 p.2 (h p hp))
theorem condRes_spec [DrK] {gam : List Bool} {known : List (Nat × Bool)} (hk : Hold gam known) : ∀ (l : List (Nat × Bool)),
    (condRes known l = none → ¬ Hold gam l) ∧ ∀ l', condRes known l = some l' → (Hold gam l ↔ Hold gam l')
  | [] => ⟨fun h => by simp [condRes] at h, fun l' h => by simp only [condRes, Option.some.injEq] at h; subst h; exact Iff.rfl⟩
  | (t, b) :: r => by
    have ih := condRes_spec hk r
    unfold condRes
    split
    · rename_i h1
      have h2 := hk _ (memC_spec known t b h1)
      refine ⟨fun h => fun h' => ih.1 h (Hold.cons.1 h').2, fun l' h => ?_⟩
      rw [Hold.cons]
      exact ⟨fun h3 => (ih.2 l' h).1 h3.2, fun h3 => ⟨h2, (ih.2 l' h).2 h3⟩⟩
    · rename_i h1 h0
      have h2 := hk _ (memC_spec known t (!b) h1)
      refine ⟨fun _ h' => ?_, fun l' h => by cases h⟩
      have := (Hold.cons.1 h').1
      simp only at this h2
      rw [this] at h2
      cases b <;> cases h2
    · refine ⟨fun h h' => ?_, fun l' h => ?_⟩
      · cases hc : condRes known r with
        | none => exact ih.1 hc (Hold.cons.1 h').2
        | some l => rw [hc] at h; cases h
      · cases hc : condRes known r with
        | none => rw [hc] at h; cases h
        | some l =>
          rw [hc] at h
          cases h
          rw [Hold.cons, Hold.cons, ih.2 l hc]
theorem br_spec {g : Bool} {A B : Prop} (h : br g A B) : (g = true ∧ A) ∨ (g = false ∧ B) := by
  cases g
  · exact .inr ⟨rfl, h⟩
  · exact .inl ⟨rfl, h⟩
theorem brs_spec [DrK] {gam : List Bool} : ∀ (l kn : List (Nat × Bool)) (Y N : List (Nat × Bool) → Prop), Hold gam kn → brs gam l kn Y N →
    (Hold gam l ∧ ∃ kn', Hold gam kn' ∧ Y kn') ∨ (¬ Hold gam l ∧ ∃ kn', Hold gam kn' ∧ N kn')
  | [], kn, Y, N, hk, h => .inl ⟨Hold.nil _, kn, hk, h⟩
  | (t, want) :: r, kn, Y, N, hk, h => by
    unfold brs at h
    split at h
    · rename_i g hg
      rcases br_spec h with ⟨rfl, h⟩ | ⟨rfl, h⟩
      · cases want
        · exact .inr ⟨(fun h' => by have := (Hold.cons.1 h').1; rw [hg] at this; cases this), _, Hold.cons.2 ⟨hg, hk⟩, h⟩
        · rcases brs_spec r _ Y N (Hold.cons.2 ⟨hg, hk⟩) h with ⟨h1, h2⟩ | ⟨h1, h2⟩
          · exact .inl ⟨Hold.cons.2 ⟨hg, h1⟩, h2⟩
          · exact .inr ⟨fun h' => h1 (Hold.cons.1 h').2, h2⟩
      · cases want
        · rcases brs_spec r _ Y N (Hold.cons.2 ⟨hg, hk⟩) h with ⟨h1, h2⟩ | ⟨h1, h2⟩
          · exact .inl ⟨Hold.cons.2 ⟨hg, h1⟩, h2⟩
          · exact .inr ⟨fun h' => h1 (Hold.cons.1 h').2, h2⟩
        · exact .inr ⟨(fun h' => by have := (Hold.cons.1 h').1; rw [hg] at this; cases this), _, Hold.cons.2 ⟨hg, hk⟩, h⟩
    · exact h.elim

/-- An entry's conditions speak of tags that are there. -/
def InGam (gam : List Bool) (l : List (Nat × Bool)) : Prop := ∀ p ∈ l, p.1 < gam.length
/-- What the state says of the frame, in the midst of a region. -/
structure Agr (st : St) (a : Act) : Prop where
  len : st.slots.length = a.tmps.size
  ent : ∀ (t : Nat) (ver : Nat) (e : SE), st.slots[t]? = some (ver, some e) → Hold st.gam e.conds → a.tmps[t]? = some (e.rv.val st.boxes)
  off : ∀ (t : Nat) (ver : Nat) (e : SE), st.slots[t]? = some (ver, some e) → ¬ Hold st.gam e.conds → a.tmps[t]? = some undef
  tag : ∀ (t : Nat) (ver : Nat) (e : SE) (tag : Nat), st.slots[t]? = some (ver, some e) → e.tag = some tag → ∃ g, e.rv = .v (.bool g) ∧ st.gam[tag]? = some g
  rng : ∀ (t : Nat) (ver : Nat) (e : SE), st.slots[t]? = some (ver, some e) → ∀ i off, e.rv = .box i off → i < st.boxes.length
  ing : ∀ (t : Nat) (ver : Nat) (e : SE), st.slots[t]? = some (ver, some e) → InGam st.gam e.conds
  kn : Hold st.gam st.known
  df : a.defers = []
theorem Agr.entry [DrK] {st : St} {a : Act} (h : Agr st a) {ctx : List (Nat × Bool)} (hc : Hold st.gam ctx) {t : Tmp} {e : SE} (he : st.entry ctx t = some e) : a.tmps[t]? = some (e.rv.val st.boxes) ∧ ∃ ver, st.slots[t]? = some (ver, some e) := by
  unfold St.entry at he
  split at he
  · rename_i ver e' hs
    split at he
    · rename_i hsub
      cases he
      exact ⟨h.ent t ver _ hs (subC_spec hsub (Hold.append.2 ⟨hc, h.kn⟩)), ver, hs⟩
    · cases he
  · cases he
theorem Agr.rv [DrK] {st : St} {a : Act} (h : Agr st a) {ctx : List (Nat × Bool)} (hc : Hold st.gam ctx) : ∀ x r, st.rv ctx x = some r → a.eval x = r.val st.boxes := by
  intro x r hx
  cases x with
  | tmp t =>
    simp only [St.rv] at hx
    cases he : st.entry ctx t with
    | none => rw [he] at hx; cases hx
    | some e =>
      rw [he] at hx
      cases hx
      have := (h.entry hc he).1
      simp [Act.eval, Array.getD_eq_getD_getElem?, this]
  | const v => simp only [St.rv, Option.some.injEq] at hx; subst hx; rfl
  | global g => simp only [St.rv, Option.some.injEq] at hx; subst hx; rfl
  | func f => simp only [St.rv, Option.some.injEq] at hx; subst hx; rfl

/-- Slots and boxes turn only with their numbers. -/
structure StRel (st st' : St) : Prop where
  len : st'.slots.length = st.slots.length
  slots : ∀ (t ver : Nat) (e : Option SE), st.slots[t]? = some (ver, e) → ∃ (ver' : Nat) (e' : Option SE), st'.slots[t]? = some (ver', e') ∧ ver ≤ ver' ∧ (ver = ver' → e = e')
  boxes : BxRel st.boxes st'.boxes
theorem StRel.refl [DrK] (st : St) : StRel st st := ⟨rfl, fun t v e h => ⟨v, e, h, Nat.le_refl _, fun _ => rfl⟩, BxRel.refl _⟩
theorem StRel.trans [DrK] {a b c : St} (h : StRel a b) (k : StRel b c) : StRel a c :=
  ⟨k.len.trans h.len, fun t v e hs => by
    obtain ⟨v1, e1, h1, h2, h3⟩ := h.slots t v e hs
    obtain ⟨v2, e2, k1, k2, k3⟩ := k.slots t v1 e1 h1
    exact ⟨v2, e2, k1, Nat.le_trans h2 k2, fun he => (h3 (by omega)).trans (k3 (by omega))⟩, h.boxes.trans k.boxes⟩
/-- Values of entries don't turn when boxes do as they may. -/
theorem val_rel {bx bx' : List Box} (h : BxRel bx bx') {r : RV} (hr : ∀ i off, r = .box i off → i < bx.length) : r.val bx' = r.val bx := by
  cases r with
  | v x => rfl
  | box i off =>
    have hi := hr i off rfl
    obtain ⟨b', h1, _, ⟨h2, _⟩, _⟩ := h i bx[i] (List.getElem?_eq_getElem hi)
    simp [RV.val, h1, h2, List.getElem?_eq_getElem hi]

theorem hold_snoc {gam : List Bool} {g : Bool} {l : List (Nat × Bool)} (h : Hold gam l) : Hold (gam ++ [g]) l := fun p hp => by
  have := h p hp
  rw [List.getElem?_append_left (List.getElem?_eq_some_iff.1 this).1]; exact this
theorem hold_snoc_iff [DrK] {gam : List Bool} {g : Bool} {l : List (Nat × Bool)} (hl : InGam gam l) : Hold (gam ++ [g]) l ↔ Hold gam l :=
  ⟨fun h p hp => by have := h p hp; rwa [List.getElem?_append_left (hl p hp)] at this, hold_snoc⟩
theorem St.set_slots (st : St) (d : Tmp) (e : Option SE) (t : Nat) : (st.set (some d) e).slots[t]? = (if t = d then (match st.slots[d]? with
      | some (v, _) => some (v + 1, e)
      | none => none) else st.slots[t]?) := by
  simp only [St.set]
  cases hd : st.slots[d]? with
  | none =>
    simp only
    split
    · rename_i h; subst h; exact hd
    · rfl
  | some x =>
    obtain ⟨v, e0⟩ := x
    simp only [List.getElem?_set]
    have hl := (List.getElem?_eq_some_iff.1 hd).1
    by_cases h : d = t
    · subst h; simp [hl]
    · rw [if_neg h, if_neg (fun e => h e.symm)]
theorem St.set_rest (st : St) (dst : Option Tmp) (e : Option SE) : (st.set dst e).boxes = st.boxes ∧ (st.set dst e).gam = st.gam ∧ (st.set dst e).known = st.known ∧ (st.set dst e).slots.length = st.slots.length := by
  cases dst with
  | none => exact ⟨rfl, rfl, rfl, rfl⟩
  | some d =>
    simp only [St.set]
    split
    · exact ⟨rfl, rfl, rfl, by simp⟩
    · exact ⟨rfl, rfl, rfl, rfl⟩
theorem St.set_rel [DrK] (st : St) (dst : Option Tmp) (e : Option SE) : StRel st (st.set dst e) := by
  refine ⟨(st.set_rest dst e).2.2.2, fun t v e0 h => ?_, by rw [(st.set_rest dst e).1]; exact BxRel.refl _⟩
  cases dst with
  | none => exact ⟨v, e0, h, Nat.le_refl _, fun _ => rfl⟩
  | some d =>
    rw [St.set_slots]
    by_cases hd : t = d
    · subst hd
      rw [if_pos rfl, h]
      exact ⟨v + 1, e, rfl, Nat.le_succ _, fun he => by omega⟩
    · rw [if_neg hd]
      exact ⟨v, e0, h, Nat.le_refl _, fun _ => rfl⟩
theorem put_size (a : Act) (dst : Option Tmp) (v : Value) : (a.put dst v).tmps.size = a.tmps.size := by cases dst <;> simp [Act.put]
theorem put_get (a : Act) (d : Tmp) (v : Value) (t : Nat) : (a.put (some d) v).tmps[t]? = if t = d then (if d < a.tmps.size then some v else none) else a.tmps[t]? := by
  simp only [Act.put]
  rw [Array.getElem?_setIfInBounds]
  by_cases h : d = t
  · subst h; simp
  · rw [if_neg h, if_neg (fun e => h e.symm)]
theorem put_df (a : Act) (dst : Option Tmp) (v : Value) : (a.put dst v).defers = a.defers := by cases dst <;> rfl

/-- An entry is laid. -/
theorem Agr.set [DrK] {st : St} {a : Act} (h : Agr st a) {ctx : List (Nat × Bool)} (hctx : InGam st.gam ctx) {dst : Option Tmp} {v : Value} {tag : Option Nat} {rv : RV}
    (hv : Hold st.gam ctx → rv.val st.boxes = v) (hn : ¬ Hold st.gam ctx → v = undef) (ht : ∀ n, tag = some n → ∃ g, rv = .v (.bool g) ∧ st.gam[n]? = some g)
    (hr : ∀ i off, rv = .box i off → i < st.boxes.length) : Agr (st.set dst (some ⟨ctx, tag, rv⟩)) (a.put dst v) := by
  obtain ⟨r1, r2, r3, r4⟩ := st.set_rest dst (some ⟨ctx, tag, rv⟩)
  cases dst with
  | none => exact h
  | some d =>
    have key : ∀ (t ver : Nat) (e : SE), (st.set (some d) (some ⟨ctx, tag, rv⟩)).slots[t]? = some (ver, some e) → (t = d ∧ d < a.tmps.size ∧ e = ⟨ctx, tag, rv⟩) ∨ (t ≠ d ∧ st.slots[t]? = some (ver, some e)) := fun t ver e he => by
      rw [St.set_slots] at he
      by_cases hd : t = d
      · rw [if_pos hd] at he
        left
        cases hs : st.slots[d]? with
        | none => rw [hs] at he; cases he
        | some x =>
          rw [hs] at he
          cases he
          have := (List.getElem?_eq_some_iff.1 hs).1
          rw [h.len] at this
          exact ⟨hd, this, rfl⟩
      · rw [if_neg hd] at he
        exact .inr ⟨hd, he⟩
    refine ⟨by rw [r4, put_size]; exact h.len, fun t ver e he hh => ?_, fun t ver e he hh => ?_, fun t ver e tg he htg => ?_, fun t ver e he i off hb => ?_, fun t ver e he => ?_, by rw [r2, r3]; exact h.kn, by rw [put_df]; exact h.df⟩
    · rw [r2] at hh; rw [r1, put_get]
      rcases key t ver e he with ⟨rfl, hl, rfl⟩ | ⟨hd, he'⟩
      · rw [if_pos rfl, if_pos hl]; exact congrArg some (hv hh).symm
      · rw [if_neg hd]; exact h.ent t ver e he' hh
    · rw [r2] at hh; rw [put_get]
      rcases key t ver e he with ⟨rfl, hl, rfl⟩ | ⟨hd, he'⟩
      · rw [if_pos rfl, if_pos hl]; exact congrArg some (hn hh)
      · rw [if_neg hd]; exact h.off t ver e he' hh
    · rw [r2]
      rcases key t ver e he with ⟨rfl, hl, rfl⟩ | ⟨hd, he'⟩
      · exact ht tg htg
      · exact h.tag t ver e tg he' htg
    · rw [r1]
      rcases key t ver e he with ⟨rfl, hl, rfl⟩ | ⟨hd, he'⟩
      · exact hr i off hb
      · exact h.rng t ver e he' i off hb
    · rw [r2]
      rcases key t ver e he with ⟨rfl, hl, rfl⟩ | ⟨hd, he'⟩
      · exact hctx
      · exact h.ing t ver e he'
theorem Agr.setNone [DrK] {st : St} {a : Act} (h : Agr st a) {dst : Option Tmp} {v : Value} : Agr (st.set dst none) (a.put dst v) := by
  obtain ⟨r1, r2, r3, r4⟩ := st.set_rest dst none
  cases dst with
  | none => exact h
  | some d =>
    have key : ∀ (t ver : Nat) (e : SE), (st.set (some d) none).slots[t]? = some (ver, some e) → t ≠ d ∧ st.slots[t]? = some (ver, some e) := fun t ver e he => by
      rw [St.set_slots] at he
      by_cases hd : t = d
      · rw [if_pos hd] at he
        cases hs : st.slots[d]? with
        | none => rw [hs] at he; cases he
        | some x => rw [hs] at he; cases he
      · rw [if_neg hd] at he
        exact ⟨hd, he⟩
    refine ⟨by rw [r4, put_size]; exact h.len, fun t ver e he hh => ?_, fun t ver e he hh => ?_, fun t ver e tg he htg => ?_, fun t ver e he i off hb => ?_, fun t ver e he => ?_, by rw [r2, r3]; exact h.kn, by rw [put_df]; exact h.df⟩
    · obtain ⟨hd, he'⟩ := key t ver e he
      rw [r2] at hh; rw [r1, put_get, if_neg hd]; exact h.ent t ver e he' hh
    · obtain ⟨hd, he'⟩ := key t ver e he
      rw [r2] at hh; rw [put_get, if_neg hd]; exact h.off t ver e he' hh
    · obtain ⟨hd, he'⟩ := key t ver e he
      rw [r2]; exact h.tag t ver e tg he' htg
    · obtain ⟨hd, he'⟩ := key t ver e he
      rw [r1]; exact h.rng t ver e he' i off hb
    · obtain ⟨hd, he'⟩ := key t ver e he
      rw [r2]; exact h.ing t ver e he'
/-- One tag more. -/
theorem Agr.snoc [DrK] {st : St} {a : Act} (h : Agr st a) (g : Bool) : Agr { st with gam := st.gam ++ [g] } a :=
  ⟨h.len, fun t ver e he hh => h.ent t ver e he ((hold_snoc_iff (h.ing t ver e he)).1 hh), fun t ver e he hh => h.off t ver e he (fun h' => hh (hold_snoc h')),
    fun t ver e tg he htg => by
      obtain ⟨g', h1, h2⟩ := h.tag t ver e tg he htg
      exact ⟨g', h1, by rw [List.getElem?_append_left (List.getElem?_eq_some_iff.1 h2).1]; exact h2⟩,
    h.rng, fun t ver e he p hp => by have := h.ing t ver e he p hp; simp; omega, hold_snoc h.kn, h.df⟩
theorem InGam.snoc {gam : List Bool} {g : Bool} {l : List (Nat × Bool)} (h : InGam gam l) : InGam (gam ++ [g]) l := fun p hp => by have := h p hp; simp; omega
theorem Agr.leave [DrK] {st : St} {a : Act} (h : Agr st a) {ctx : List (Nat × Bool)} (hctx : InGam st.gam ctx) {o : Oper} {v : Value} {r : Option RV}
    (hv : Hold st.gam ctx → ∀ rv, r = some rv → rv.val st.boxes = v) (hn : ¬ Hold st.gam ctx → v = undef) : Agr (st.leave o ctx r) (a.put o.dst v) := by
  unfold St.leave
  split
  · exact h.setNone
  · rename_i g
    have h1 := h.snoc g
    have h2 := h1.set (dst := o.dst) (ctx := ctx) (v := v) (tag := some st.gam.length) (rv := .v (.bool g)) hctx.snoc (fun hh => hv ((hold_snoc_iff hctx).1 hh) _ rfl) (fun hh => hn (fun h' => hh (hold_snoc h')))
      (fun n hn => by cases hn; exact ⟨g, rfl, by simp⟩) (fun i off e => by cases e)
    have e : ({ st with gam := st.gam ++ [g] } : St).set o.dst (some ⟨ctx, some st.gam.length, .v (.bool g)⟩) = { st.set o.dst (some ⟨ctx, some st.gam.length, .v (.bool g)⟩) with gam := st.gam ++ [g] } := by
      cases o.dst with
      | none => rfl
      | some d => simp only [St.set]; split <;> rfl
    rw [← e]
    exact h2
  · rename_i i off
    split
    · rename_i b hb
      exact h.set hctx (fun hh => hv hh _ rfl) hn (fun n e => by cases e) (fun i' off' e => by cases e; exact (List.getElem?_eq_some_iff.1 hb).1)
    · exact h.setNone
  · rename_i rv h1 h2
    refine h.set hctx (fun hh => hv hh _ rfl) hn (fun n e => by cases e) (fun i off e => ?_)
    exact absurd e (h2 i off)
theorem leave_rel [DrK] (st : St) (o : Oper) (ctx : List (Nat × Bool)) (r : Option RV) : StRel st (st.leave o ctx r) := by
  unfold St.leave
  split
  · exact st.set_rel _ _
  · rename_i g
    have := st.set_rel o.dst (some ⟨ctx, some st.gam.length, .v (.bool g)⟩)
    exact ⟨this.len, this.slots, this.boxes⟩
  · split <;> exact st.set_rel _ _
  · exact st.set_rel _ _
theorem leave_rest [DrK] (st : St) (o : Oper) (ctx : List (Nat × Bool)) (r : Option RV) : (st.leave o ctx r).boxes = st.boxes := by
  unfold St.leave
  split
  · exact (st.set_rest _ _).1
  · exact (st.set_rest _ _).1
  · split <;> exact (st.set_rest _ _).1
  · exact (st.set_rest _ _).1
/-- The boxes have turned, as they may. -/
theorem Agr.boxes [DrK] {st : St} {a : Act} (h : Agr st a) {bx : List Box} (hb : BxRel st.boxes bx) : Agr { st with boxes := bx } a := by
  have hlen : st.boxes.length ≤ bx.length := by
    rcases Nat.lt_or_ge bx.length st.boxes.length with hlt | hge
    · obtain ⟨b', h1, _⟩ := hb bx.length st.boxes[bx.length] (List.getElem?_eq_getElem hlt)
      rw [List.getElem?_eq_none (Nat.le_refl _)] at h1
      cases h1
    · exact hge
  exact ⟨h.len, fun t ver e he hh => by
      rw [h.ent t ver e he hh]
      exact congrArg some (val_rel hb (h.rng t ver e he)).symm, h.off, h.tag, fun t ver e he i off hbx => Nat.lt_of_lt_of_le (h.rng t ver e he i off hbx) hlen, h.ing, h.kn, h.df⟩
theorem boxes_rel {st : St} {bx : List Box} (hb : BxRel st.boxes bx) : StRel st { st with boxes := bx } := ⟨rfl, fun t v e h => ⟨v, e, h, Nat.le_refl _, fun _ => rfl⟩, hb⟩
end
end Go.Proofs.YtgkmcnafkhdlnaaGreat
