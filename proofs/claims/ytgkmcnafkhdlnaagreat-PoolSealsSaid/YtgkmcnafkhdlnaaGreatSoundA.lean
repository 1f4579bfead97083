/- The executor of YtgkmcnafkhdlnaaGreatCore is right: states that go round, or meet. -/
import Derived.Test.YtgkmcnafkhdlnaaGreatSound9
set_option linter.unusedSimpArgs false
set_option linter.unusedVariables false
namespace Go.Proofs.YtgkmcnafkhdlnaaGreat
open Go Go.RowKit
section
variable {P : Program} {wr : Bool} {V0 : View} {w0 : World}

/-- Between two regions. -/
structure AgrB (st : St) (a : Act) : Prop where
  agr : Agr st a
  gam : st.gam = []
  kn : st.known = []
theorem AgrB.conds {st : St} {a : Act} (h : AgrB st a) {t ver : Nat} {e : SE} (he : st.slots[t]? = some (ver, some e)) : e.conds = [] ∧ e.tag = none := by
  constructor
  · have := h.agr.ing t ver e he
    rw [h.gam] at this
    cases hc : e.conds with
    | nil => rfl
    | cons p l => have := this p (by rw [hc]; exact List.mem_cons_self ..); simp at this
  · cases ht : e.tag with
    | none => rfl
    | some tag =>
      obtain ⟨g, _, h2⟩ := h.agr.tag t ver e tag he ht
      rw [h.gam] at h2
      simp at h2
/-- All entries are plain, and right. -/
theorem AgrB.mk' [DrK] {st : St} {a : Act} (hl : st.slots.length = a.tmps.size) (hg : st.gam = []) (hk : st.known = []) (hd : a.defers = [])
    (he : ∀ (t ver : Nat) (e : SE), st.slots[t]? = some (ver, some e) → e.conds = [] ∧ e.tag = none ∧ a.tmps[t]? = some (e.rv.val st.boxes) ∧ ∀ i off, e.rv = .box i off → i < st.boxes.length) : AgrB st a :=
  ⟨⟨hl, fun t ver e h _ => (he t ver e h).2.2.1, fun t ver e h hn => absurd (by rw [(he t ver e h).1]; exact Hold.nil _) hn, fun t ver e tag h ht => (by rw [(he t ver e h).2.1] at ht; cases ht),
    fun t ver e h => (he t ver e h).2.2.2, fun t ver e h => (by rw [(he t ver e h).1]; exact fun p hp => (by cases hp)), by rw [hk]; exact Hold.nil _, hd⟩, hg, hk⟩
theorem endE_get : ∀ (l0 l : List (Nat × Option SE)) (t : Nat), (endE l0 l)[t]? = (match l0[t]?, l[t]? with
    | some (v0, e0), some (v, e) => some (v, match v == v0 with
      | true => e0
      | false => match e with
        | some ⟨[], _, rv⟩ => some ⟨[], none, rv⟩
        | _ => none)
    | _, _ => none)
  | [], l, t => by simp [endE]
  | (v0, e0) :: l0, [], t => by
    simp only [endE, List.getElem?_nil]
    split <;> simp_all
  | (v0, e0) :: l0, (v, e) :: l, t => by
    cases t with
    | zero => rfl
    | succ t => simp only [endE, List.getElem?_cons_succ]; exact endE_get l0 l t
theorem endE_length : ∀ (l0 l : List (Nat × Option SE)), l.length = l0.length → (endE l0 l).length = l0.length
  | [], [], _ => rfl
  | [], _ :: _, h => by simp at h
  | _ :: _, [], h => by simp at h
  | (v0, e0) :: l0, (v, e) :: l, h => by simp only [endE, List.length_cons]; rw [endE_length l0 l (by simpa using h)]
theorem ended_ok [DrK] {st0 st : St} {a0 a : Act} (h0 : AgrB st0 a0) (h : Agr st a) (hr : StRel st0 st) : AgrB (st0.ended st) a ∧ StRel st0 (st0.ended st) := by
  have hlen : (endE st0.slots st.slots).length = st0.slots.length := endE_length _ _ hr.len
  have key : ∀ (t ver : Nat) (e : SE), (endE st0.slots st.slots)[t]? = some (ver, some e) → (st0.slots[t]? = some (ver, some e) ∧ st.slots[t]? = some (ver, some e)) ∨ (∃ tag rv, st.slots[t]? = some (ver, some ⟨[], tag, rv⟩) ∧ e = ⟨[], none, rv⟩) := by
    intro t ver e he
    rw [endE_get] at he
    cases h1 : st0.slots[t]? with
    | none => rw [h1] at he; cases he
    | some x =>
      obtain ⟨v0, e0⟩ := x
      obtain ⟨v', e', h2, h3, h4⟩ := hr.slots t v0 e0 h1
      rw [h1, h2] at he
      simp only [Option.some.injEq, Prod.mk.injEq] at he
      obtain ⟨rfl, he⟩ := he
      split at he
      · rename_i hv
        have hv' : v0 = v' := (by simpa using hv : v' = v0).symm
        have := h4 hv'
        subst hv'
        subst this
        subst he
        exact .inl ⟨rfl, h2⟩
      · split at he
        · rename_i tag rv
          cases he
          exact .inr ⟨tag, rv, h2, rfl⟩
        · cases he
  refine ⟨AgrB.mk' (by show (endE st0.slots st.slots).length = _; rw [hlen, ← hr.len]; exact h.len) rfl rfl h.df fun t ver e he => ?_, ⟨hlen, fun t ver e he => ?_, hr.boxes⟩⟩
  · rcases key t ver e he with ⟨h1, h2⟩ | ⟨tag, rv, h1, rfl⟩
    · obtain ⟨hc, ht⟩ := h0.conds h1
      exact ⟨hc, ht, h.ent t ver e h2 (by rw [hc]; exact Hold.nil _), h.rng t ver e h2⟩
    · exact ⟨rfl, rfl, h.ent t ver ⟨[], tag, rv⟩ h1 (Hold.nil _), h.rng t ver ⟨[], tag, rv⟩ h1⟩
  · obtain ⟨v', e', h2, h3, h4⟩ := hr.slots t ver e he
    refine ⟨v', _, by show (endE st0.slots st.slots)[t]? = _; rw [endE_get, he, h2], h3, fun hv => ?_⟩
    subst hv
    simp

/-! ### what goes round -/
theorem unc_cur : ∀ (ks : List K) (f : Ty ks → View → Prop) (s : Ty ks) (V : View), unc ks (cur ks f) s V = f s V
  | [], f, (), V => rfl
  | k :: ks, f, (x, s), V => by simp only [unc, cur]; exact unc_cur ks (fun s => f (x, s)) s V
theorem uncF_curF {R : Type} : ∀ (ks : List K) (f : Ty ks → View → R) (s : Ty ks) (V : View), uncF ks (curF ks f) s V = f s V
  | [], f, (), V => rfl
  | k :: ks, f, (x, s), V => by simp only [uncF, curF]; exact uncF_curF ks (fun s => f (x, s)) s V
theorem ups_dns [DrK] : ∀ (ks : List K) (l : List Value) (s : Ty ks), dns ks l = some s → ups ks s = l
  | [], [], (), _ => rfl
  | [], _ :: _, _, h => by simp [dns] at h
  | _ :: _, [], _, h => by simp [dns] at h
  | k :: ks, v :: vs, (x, s), h => by
    simp only [dns] at h
    split at h
    · rename_i x' s' hx hs
      cases h
      simp only [ups]
      rw [K.up_dn hx, ups_dns ks vs s hs]
    · cases h
theorem readS_len {st : St} : ∀ (l : List (Nat × K)) (a : List Value), readS st l = some a → a.length = l.length
  | [], a, h => by simp only [readS, Option.some.injEq] at h; subst h; rfl
  | (t, k) :: l, a, h => by
    simp only [readS] at h
    split at h
    · rename_i hl
      cases h
      simp [readS_len l _ hl]
    · cases h
theorem bump_get [DrK] (st : St) (d : Nat) (e : Option SE) (t : Nat) : (st.bump d e).slots[t]? = (if t = d then (match st.slots[d]? with
      | some (v, _) => some (v + 1, e)
      | none => none) else st.slots[t]?) := St.set_slots st d e t
/-- What a row of bumps leaves: an untold slot is as it was; a told one has a greater number. -/
structure Bumped (ok : List Nat) (good : Nat → SE → Prop) (st st' : St) : Prop where
  len : st'.slots.length = st.slots.length
  boxes : st'.boxes = st.boxes
  gam : st'.gam = st.gam
  kn : st'.known = st.known
  keep : ∀ t, t ∉ ok → st'.slots[t]? = st.slots[t]?
  rel : ∀ (t ver : Nat) (e : Option SE), st.slots[t]? = some (ver, e) → ∃ (ver' : Nat) (e' : Option SE), st'.slots[t]? = some (ver', e') ∧ ver ≤ ver' ∧ (ver = ver' → e = e')
  told : ∀ (t ver : Nat) (e : SE), st'.slots[t]? = some (ver, some e) → (t ∈ ok ∧ good t e) ∨ (t ∉ ok ∧ st.slots[t]? = some (ver, some e))
theorem Bumped.refl (good : Nat → SE → Prop) (st : St) : Bumped [] good st st := ⟨rfl, rfl, rfl, rfl, fun _ _ => rfl, fun t v e h => ⟨v, e, h, Nat.le_refl _, fun _ => rfl⟩, fun _ _ _ h => .inr ⟨by simp, h⟩⟩
theorem Bumped.step [DrK] {good : Nat → SE → Prop} (st : St) (d : Nat) (e0 : Option SE) (hg : ∀ e, e0 = some e → good d e) : Bumped [d] good st (st.bump d e0) := by
  obtain ⟨r1, r2, r3, r4⟩ := st.set_rest (some d) e0
  refine ⟨r4, r1, r2, r3, fun t ht => ?_, (st.set_rel (some d) e0).slots, fun t ver e he => ?_⟩
  · rw [bump_get, if_neg (fun e => ht (List.mem_singleton.2 e))]
  · rw [bump_get] at he
    by_cases hd : t = d
    · subst hd
      rw [if_pos rfl] at he
      split at he
      · simp only [Option.some.injEq, Prod.mk.injEq] at he
        exact .inl ⟨List.mem_singleton.2 rfl, hg e he.2⟩
      · cases he
    · rw [if_neg hd] at he; exact .inr ⟨fun e => hd (List.mem_singleton.1 e), he⟩
theorem Bumped.trans {ok ok' : List Nat} {good : Nat → SE → Prop} {a b c : St} (h : Bumped ok good a b) (k : Bumped ok' good b c) : Bumped (ok ++ ok') good a c :=
  ⟨k.len.trans h.len, k.boxes.trans h.boxes, k.gam.trans h.gam, k.kn.trans h.kn, fun t ht => by
      rw [List.mem_append, not_or] at ht
      exact (k.keep t ht.2).trans (h.keep t ht.1), fun t v e hs => by
      obtain ⟨v1, e1, h1, h2, h3⟩ := h.rel t v e hs
      obtain ⟨v2, e2, k1, k2, k3⟩ := k.rel t v1 e1 h1
      exact ⟨v2, e2, k1, Nat.le_trans h2 k2, fun he => (h3 (by omega)).trans (k3 (by omega))⟩,
    fun t ver e he => by
      rcases k.told t ver e he with ⟨h1, h2⟩ | ⟨h1, h2⟩
      · exact .inl ⟨List.mem_append_right _ h1, h2⟩
      · rcases h.told t ver e h2 with ⟨h3, h4⟩ | ⟨h3, h4⟩
        · exact .inl ⟨List.mem_append_left _ h3, h4⟩
        · exact .inr ⟨by rw [List.mem_append, not_or]; exact ⟨h3, h1⟩, h4⟩⟩
theorem Bumped.grow {ok : List Nat} {good good' : Nat → SE → Prop} {a b : St} (h : Bumped ok good a b) (hg : ∀ t e, good t e → good' t e) : Bumped ok good' a b :=
  ⟨h.len, h.boxes, h.gam, h.kn, h.keep, h.rel, fun t ver e he => (h.told t ver e he).imp (fun h => ⟨h.1, hg t e h.2⟩) id⟩
theorem killS_ok [DrK] (good : Nat → SE → Prop) : ∀ (l : List Nat) (st : St), Bumped l good st (killS st l)
  | [], st => Bumped.refl good st
  | t :: l, st => (Bumped.step st t none (fun e h => by cases h)).trans (killS_ok good l _)
theorem writeS_ok [DrK] {st' : St} (good : Nat → SE → Prop) (hgood : ∀ t v ver tag, st'.slots[t]? = some (ver, some ⟨[], tag, .v v⟩) → good t ⟨[], none, .v v⟩) : ∀ (l : List (Nat × K)) (a : List Value) (st : St), readS st' l = some a →
    Bumped (l.map (·.1)) good st (writeS st l a)
  | [], a, st, _ => Bumped.refl good st
  | (t, k) :: l, a, st, h => by
    simp only [readS] at h
    split at h
    · rename_i ver tag x l' hx hl
      cases h
      exact (Bumped.step st t _ (fun e he => by cases he; exact hgood t x ver tag hx)).trans (writeS_ok good hgood l _ _ hl)
    · cases h
theorem sameS_get : ∀ (ok : List Nat) (k : Nat) (l l' : List (Nat × Option SE)), sameS ok k l l' = true → ∀ (t : Nat) (x y : Nat × Option SE), l[t]? = some x → l'[t]? = some y → x.1 = y.1 ∨ (k + t) ∈ ok
  | ok, k, [], _, _, t, x, y, hx, _ => by simp at hx
  | ok, k, x :: l, [], h, t, _, y, hb, hb' => by simp at hb'
  | ok, k, (v, e) :: l, (v', e') :: m, h, t, x, y, hb, hb' => by
    simp only [sameS, Bool.and_eq_true, Bool.or_eq_true, beq_iff_eq] at h
    cases t with
    | zero =>
      simp only [List.getElem?_cons_zero, Option.some.injEq] at hb hb'
      subst hb; subst hb'
      rcases h.1 with h1 | h1
      · exact .inl h1
      · exact .inr (by simpa using h1)
    | succ t =>
      simp only [List.getElem?_cons_succ] at hb hb'
      have := sameS_get ok (k + 1) l m h.2 t x y hb hb'
      rwa [show k + 1 + t = k + (t + 1) by omega] at this
theorem sameB_len : ∀ (ok : List Nat) (k : Nat) (bx bx' : List Box), sameB ok k bx bx' = true → bx.length ≤ bx'.length
  | _, _, [], _, _ => Nat.zero_le _
  | _, _, _ :: _, [], h => by simp [sameB] at h
  | ok, k, x :: l, y :: m, h => by
    simp only [sameB, Bool.and_eq_true] at h
    simp only [List.length_cons]
    have := sameB_len ok (k + 1) l m h.2
    omega

theorem boxSet_get (bx : List Box) (i : Nat) (cs : List Value) (j : Nat) : (boxSet bx i cs)[j]? = (if j = i then (match bx[i]? with
      | some b => some { b with ver := b.ver + 1, cells := some cs }
      | none => none) else bx[j]?) := by
  unfold boxSet
  cases hb : bx[i]? with
  | none =>
    simp only
    split
    · rename_i h; subst h; exact hb
    · rfl
  | some b =>
    simp only [List.getElem?_set]
    have hl := (List.getElem?_eq_some_iff.1 hb).1
    by_cases h : i = j
    · subst h; simp [hl]
    · rw [if_neg h, if_neg (fun e => h e.symm)]
/-- What a row of boxes' stores leaves. -/
structure BBumped (ok : List Nat) (good : Nat → List Value → Prop) (bx bx' : List Box) : Prop where
  len : bx'.length = bx.length
  keep : ∀ i, i ∉ ok → bx'[i]? = bx[i]?
  rel : BxRel bx bx'
  told : ∀ (i : Nat) (b : Box), bx'[i]? = some b → i ∈ ok → ∃ cs, b.cells = some cs ∧ good i cs
theorem writeB_ok [DrK] {st' : St} (good : Nat → List Value → Prop) (hgood : ∀ (i : Nat) (b : Box) (cs : List Value), st'.boxes[i]? = some b → b.cells = some cs → good i cs) : ∀ (l : List (Nat × List K)) (a : List Value) (st : St), readB st' l = some a →
    BBumped (l.map (·.1)) good st.boxes (writeB st l a).boxes ∧ (writeB st l a).slots = st.slots ∧ (writeB st l a).gam = st.gam ∧ (writeB st l a).known = st.known
  | [], a, st, _ => ⟨⟨rfl, fun _ _ => rfl, BxRel.refl _, fun i b _ h => by cases h⟩, rfl, rfl, rfl⟩
  | (i, ks) :: l, a, st, h => by
    simp only [readB] at h
    split at h
    · rename_i v blk ty cs l' hb hl
      split at h
      · rename_i hlen
        cases h
        simp only [writeB]
        rw [List.take_left' hlen, List.drop_left' hlen]
        obtain ⟨h1, h2, h3, h4⟩ := writeB_ok good hgood l l' { st with boxes := boxSet st.boxes i cs } hl
        refine ⟨⟨?_, fun j hj => ?_, (BxRel.boxSet st.boxes i cs).trans h1.rel, fun j b hj hok => ?_⟩, h2, h3, h4⟩
        · rw [h1.len]
          unfold boxSet
          split <;> simp
        · simp only [List.map_cons, List.mem_cons, not_or] at hj
          rw [h1.keep j hj.2, boxSet_get, if_neg hj.1]
        · by_cases hjl : j ∈ l.map (·.1)
          · exact h1.told j b hj hjl
          · simp only [List.map_cons, List.mem_cons] at hok
            have hji := hok.resolve_right hjl
            subst hji
            rw [h1.keep j hjl, boxSet_get, if_pos rfl] at hj
            split at hj
            · cases hj
              exact ⟨cs, rfl, hgood j _ cs hb rfl⟩
            · cases hj
      · cases h
    · cases h
/-- The state that goes on: it agrees with the frame. base: the state out of which it is written; st1: the state ahead of what has been carried out; st': behind it. -/
theorem write_ok [DrK] {ss : SS} {base st1 st' : St} {a' : Act} {V' : View} {w' : World} {s : Ty ss.ks} (hbg : base.gam = []) (hbk : base.known = []) (hbase : ∀ (t ver : Nat) (e : SE), base.slots[t]? = some (ver, some e) → e.conds = [] ∧ e.tag = none ∧ ∀ i off, e.rv = .box i off → i < base.boxes.length)
    (hlen : base.slots.length = st1.slots.length) (hblen : base.boxes.length = st1.boxes.length)
    (heq : ∀ t, t ∉ ss.kill ++ ss.slots.map (·.1) → st1.slots[t]? = base.slots[t]?) (hbeq : ∀ i, i ∉ ss.boxes.map (·.1) → st1.boxes[i]? = base.boxes[i]?) (hbblk : BxRel base.boxes st1.boxes)
    (ha : AgrB st' a') (hi : Inv V0 w0 V' w' st'.boxes) (hr : StRel st1 st') (hs : ss.same st1 st' = true) (hrd : ss.read st' = some s) :
    AgrB (ss.write base s) a' ∧ Inv V0 w0 V' w' (ss.write base s).boxes := by
  unfold SS.read at hrd
  split at hrd
  · rename_i a b hra hrb
    have hups := ups_dns _ _ _ hrd
    unfold SS.same at hs
    simp only [Bool.and_eq_true] at hs
    obtain ⟨hs1, hs2⟩ := hs
    unfold SS.write
    simp only
    rw [hups, List.take_left' (readS_len _ _ hra), List.drop_left' (readS_len _ _ hra)]
    let good : Nat → SE → Prop := fun t e => e.conds = [] ∧ e.tag = none ∧ ∃ v, e.rv = .v v ∧ a'.tmps[t]? = some v
    have hb1 := (killS_ok good ss.kill base).trans (writeS_ok (st' := st') good (fun t v ver tag he => ⟨rfl, rfl, v, rfl, by
      have := ha.agr.ent t ver _ he (Hold.nil _)
      exact this⟩) ss.slots a _ hra)
    obtain ⟨hb2, hb3, hb4, hb5⟩ := writeB_ok (st' := st') (fun i cs => ∃ (b : Box), st'.boxes[i]? = some b ∧ b.cells = some cs) (fun i b cs h1 h2 => ⟨b, h1, h2⟩) ss.boxes b (writeS (killS base ss.kill) ss.slots a) hrb
    rw [hb1.boxes] at hb2
    -- each box is as st' has it, but for its number
    have hbox : ∀ (i : Nat) (c : Box), (writeB (writeS (killS base ss.kill) ss.slots a) ss.boxes b).boxes[i]? = some c → ∃ c' : Box, st'.boxes[i]? = some c' ∧ c'.blk = c.blk ∧ c'.ty = c.ty ∧ c'.cells = c.cells := by
      intro i c hc
      have hil : i < base.boxes.length := by rw [← hb2.len]; exact (List.getElem?_eq_some_iff.1 hc).1
      have hb0 := List.getElem?_eq_getElem hil
      obtain ⟨c1, hc1, _, ⟨hk1, hk2⟩, _⟩ := hb2.rel i _ hb0
      rw [hc] at hc1
      cases hc1
      obtain ⟨d1, hd1, _, ⟨hl1, hl2⟩, _⟩ := hbblk i _ hb0
      obtain ⟨d2, hd2, _, ⟨hm1, hm2⟩, hm3⟩ := hr.boxes i _ hd1
      by_cases hin : i ∈ ss.boxes.map (·.1)
      · obtain ⟨cs, h1, d3, h2, h3⟩ := hb2.told i c hc hin
        rw [hd2] at h2
        cases h2
        exact ⟨d2, hd2, by rw [hm1, hl1, hk1], by rw [hm2, hl2, hk2], by rw [h3, h1]⟩
      · have h1 := hb2.keep i hin
        rw [hc] at h1
        have h2 := hbeq i hin
        rw [← h1] at h2
        rw [hd1] at h2
        cases h2
        rcases sameB_get _ 0 _ _ hs2 i _ _ hd1 hd2 with h4 | h4
        · have := hm3 h4
          subst this
          exact ⟨_, hd2, rfl, rfl, rfl⟩
        · rw [Nat.zero_add] at h4; exact absurd h4 hin
    refine ⟨AgrB.mk' ?_ (by rw [hb4, hb1.gam]; exact hbg) (by rw [hb5, hb1.kn]; exact hbk) ha.agr.df fun t ver e he => ?_, ⟨hi.isIn, hi.fr, ⟨fun i c hc => ?_, fun i c cs hc hcc => ?_, fun i j c d hc hd e => ?_⟩⟩⟩
    · rw [hb3, hb1.len, hlen, ← hr.len]; exact ha.agr.len
    · rw [hb3] at he
      rcases hb1.told t ver e he with ⟨_, h1, h2, v, h3, h4⟩ | ⟨hn, h1⟩
      · exact ⟨h1, h2, by rw [h3]; exact h4, fun i off h5 => by rw [h3] at h5; cases h5⟩
      · obtain ⟨h2, h3, h4⟩ := hbase t ver e h1
        have h5 := heq t hn
        rw [h1] at h5
        obtain ⟨ver', e', h6, h7, h8⟩ := hr.slots t ver _ h5
        have h9 : ver = ver' := by
          rcases sameS_get _ 0 _ _ hs1 t _ _ h5 h6 with h | h
          · exact h
          · rw [Nat.zero_add] at h; exact absurd h hn
        have h10 := h8 h9
        subst h10
        have h11 := ha.agr.ent t ver' e h6 (by rw [h2]; exact Hold.nil _)
        have hrng : ∀ i off, e.rv = .box i off → i < (writeB (writeS (killS base ss.kill) ss.slots a) ss.boxes b).boxes.length := fun i off h => by rw [hb2.len]; exact h4 i off h
        refine ⟨h2, h3, ?_, hrng⟩
        rw [h11]
        congr 1
        cases hrv : e.rv with
        | v x => rfl
        | box i off =>
          have hlt := hrng i off hrv
          obtain ⟨c', hc', hk, _, _⟩ := hbox i _ (List.getElem?_eq_getElem hlt)
          simp [RV.val, hc', hk, List.getElem?_eq_getElem hlt]
    · obtain ⟨c', hc', hk, _, _⟩ := hbox i c hc
      rw [← hk]; exact hi.boxes.lo i c' hc'
    · obtain ⟨c', hc', hk, ht, hce⟩ := hbox i c hc
      have := hi.boxes.shut i c' cs hc' (by rw [hce]; exact hcc)
      rw [← hk, ← ht]; exact this
    · obtain ⟨c', hc', hk, _, _⟩ := hbox i c hc
      obtain ⟨d', hd', hkd, _, _⟩ := hbox j d hd
      exact hi.boxes.ne i j c' d' hc' hd' (by rw [hk, hkd]; exact e)
  · cases hrd
end
end Go.Proofs.YtgkmcnafkhdlnaaGreat
