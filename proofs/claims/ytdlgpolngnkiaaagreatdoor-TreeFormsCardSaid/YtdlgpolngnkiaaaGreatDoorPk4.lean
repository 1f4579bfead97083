/- Texts joined: RefOk, RefMayOk, TreeLaw, WalkLaw, WalksLaw, Set, BitsLaw, Ref3Ok, Put3Ok, WalkOk, BackLaw, RootCutOk, Dir1Ok, Dir2Ok, CopyOk, Dir3Ok, DrFast, RootBackOk, RootClearsOk, DirWalksOk, TrLaw, TreOk, Tr1Law, Tr2Ok, Tr3Ok, Tr4Ok, Tr5Ok. -/
import Derived.Test.YtdlgpolngnkiaaaGreatDoorPk3
import Derived.Test.YtdlgpolngnkiaaaGreatDoorCore
import Derived.Test.YtdlgpolngnkiaaaGreatDoorSoundC
/- Contracts of the reference: entries, nodes, names; which inputs are light. -/
namespace Go.Proofs.YtdlgpolngnkiaaaGreatDoor
open Go
theorem refL_ok {s : Sl} {l : List Ent} {V : View} (h : SlR V s l) : CallV Tryz.prog 68 ⟨[.slice s.a s.n s.c]⟩ V fun r V' => r = .bool (mayL l) ∧ V' = V := by
  refine f68_x ?_
  unfold f68_n
  have hn := h.n; have hc := h.c; have hm := h.lim
  refine br_intro (fun h10 => ⟨?_, rfl⟩) (fun h10 => ?_)
  · have h10 := of_decide_eq_true h10
    unfold mayL
    rw [decide_eq_false (show ¬ l.length ≤ 10 by omega), Bool.and_false]
  have h10 := of_decide_eq_false h10
  have e10 : mayL l = (List.range l.length).all (okE l) := by
    unfold mayL
    rw [decide_eq_true (show l.length ≤ 10 by omega), Bool.and_true]
  rw [e10]
  refine loop1 (k := .int .i64) (fun (x : Int) V' => V' = V ∧ ∃ i : Nat, x = i ∧ i ≤ l.length ∧ (List.range i).all (okE l) = true) (fun (x : Int) _ => s.n - x.toNat) ⟨rfl, 0, rfl, by omega, rfl⟩ ?_
  rintro (x : Int) V' ⟨rfl, i, rfl, hi, hall⟩
  refine br_intro (fun hlt => ?_) (fun hge => ?_)
  · have hlt : i < l.length := by have := of_decide_eq_true hlt; omega
    obtain ⟨ad, ha, hcell, hsz, hin⟩ := h.entN hlt
    refine ⟨by omega, by omega, ad, ha, _, _, hcell, fun _ => ?_⟩
    refine joinP_cut (fun q V1 => q.1 = (!okE l i) ∧ V1 = V') ⟨trivial, V', View.Le.refl _, (refName_ok hsz).mono ?_⟩ ?_
    · rintro r V1 ⟨rfl, rfl⟩
      have d1 : decide ((l.getD i default).node < 1) = !decide (1 ≤ (l.getD i default).node) := dec_not (by omega)
      have d2 : decide ((12 : Int) ≤ (l.getD i default).node) = !decide ((l.getD i default).node < 12) := dec_not (by omega)
      rw [d1, d2]
      refine ⟨_, rfl, View.Le.refl _, V1, View.Le.refl _, View.Le.refl _, br_intro (fun hs => ⟨?_, rfl⟩) (fun hs => br_intro (fun h0 => ?_) (fun h0 => ⟨?_, rfl⟩))⟩
      · unfold okE soleE; rw [not_t hs]; rfl
      · have h0 : 0 < i := by have := of_decide_eq_true h0; omega
        obtain ⟨j, rfl⟩ : ∃ j, i = j + 1 := ⟨i - 1, by omega⟩
        obtain ⟨ad2, ha2, hcell2, _, _⟩ := h.entN (i := j) (by omega)
        have e1 : (((j + 1 : Nat) : Int) - 1).toNat = j := by omega
        refine ⟨inI64 (by omega) (by omega), by omega, by omega, ad2, ha2, (l.getD j default).name, ?_, ?_, rfl⟩
        · rw [e1]; exact cellsAt_nth hcell2 0 rfl
        · unfold okE soleE
          rw [not_f hs, decide_eq_false (show ¬ j + 1 = 0 by omega), Nat.add_sub_cancel]
          generalize sLess (l.getD j default).name (l.getD (j + 1) default).name = g1
          cases decide (1 ≤ (l.getD (j + 1) default).node) <;> cases decide ((l.getD (j + 1) default).node < 12) <;> cases g1 <;> rfl
      · have h0 : i = 0 := by have := of_decide_eq_false h0; omega
        subst h0
        unfold okE soleE
        rw [not_f hs]
        cases decide (1 ≤ (l.getD 0 default).node) <;> cases decide ((l.getD 0 default).node < 12) <;> rfl
    · rintro ⟨q, ⟨⟩⟩ V1 ⟨h1, hV⟩
      simp only at h1 hV
      subst h1 hV
      dsimp only [unc]
      refine br_intro (fun hb => ⟨?_, rfl⟩) (fun hb => ⟨inI64 (by omega) (by omega), ⟨rfl, i + 1, by omega, by omega, all_step hall (by simpa using hb)⟩, by omega⟩)
      rw [all_stop hlt (by simpa using hb)]
  · have hge : i = l.length := by have := of_decide_eq_false hge; omega
    subst hge
    exact ⟨by rw [hall], rfl⟩
theorem refN_ok {n : Nod} {s e : Sl} {V : View} (h : NodR V s e n) : CallV Tryz.prog 32 ⟨[nodV n s e]⟩ V fun r V' => r = .bool (mayN n) ∧ V' = V := by
  refine f32_x ?_
  unfold f32_n
  have hsn := h.seqs.n; have hen := h.ents.n
  have e1 : decide (((s.n : Nat) : Int) = 0) = decide (n.seqs.length = 0) := decide_eq_decide.2 (by omega)
  have e2 : decide (((e.n : Nat) : Int) = 0) = decide (n.ents.length = 0) := decide_eq_decide.2 (by omega)
  have e3 : decide (((s.n : Nat) : Int) = 5) = decide (n.seqs.length = 5) := decide_eq_decide.2 (by omega)
  rw [e1, e2, e3]
  refine fun _ => br_intro (fun h0 => ⟨?_, rfl⟩) (fun h0 => br_intro (fun h2 => ?_) (fun h2 => br_intro (fun h1 => ?_) (fun h1 => ⟨?_, rfl⟩)))
  · have h0 : n.kind = 0 := of_decide_eq_true h0
    unfold mayN; rw [if_pos h0]
    cases decide (n.links = 0) <;> cases decide (n.size = 0) <;> cases decide (n.seqs.length = 0) <;> rfl
  · have h0 : ¬ n.kind = 0 := of_decide_eq_false h0
    have h2 : n.kind = 2 := of_decide_eq_true h2
    have h1 : ¬ n.kind = 1 := by omega
    have hm : mayN n = (decide (n.links = 1) && decide (n.size = 0) && decide (n.seqs.length = 0) && mayL n.ents) := by unfold mayN; rw [if_neg h0, if_neg h1, if_pos h2]
    refine joinP_cut (fun q V1 => q.1 = mayN n ∧ V1 = V) (br_intro (fun hb => (refL_ok h.ents).mono ?_) (fun hb => ⟨?_, rfl⟩)) ?_
    · rintro r V1 ⟨rfl, rfl⟩
      refine ⟨_, rfl, ?_, rfl⟩
      rw [hm]
      cases hA : decide (n.links = 1) <;> cases hB : decide (n.size = 0) <;> cases hC : decide (n.seqs.length = 0) <;> simp_all
    · rw [hm]
      cases hA : decide (n.links = 1) <;> cases hB : decide (n.size = 0) <;> cases hC : decide (n.seqs.length = 0) <;> simp_all
    · rintro ⟨q, ⟨⟩⟩ V1 ⟨h1, hV⟩
      simp only at h1 hV
      subst h1 hV
      exact ⟨rfl, rfl⟩
  · have h0 : ¬ n.kind = 0 := of_decide_eq_false h0
    have h1 : n.kind = 1 := of_decide_eq_true h1
    have hm : mayN n = fileB n := by unfold mayN; rw [if_neg h0, if_pos h1]
    rw [hm]
    have d1 : decide (n.links < 0) = !decide (0 ≤ n.links) := dec_not (by omega)
    have d2 : decide ((120 : Int) < n.links) = !decide (n.links ≤ 120) := dec_not (by omega)
    have d3 : decide (n.size < 0) = !decide (0 ≤ n.size) := dec_not (by omega)
    have d4 : decide ((80 : Int) < n.size) = !decide (n.size ≤ 80) := dec_not (by omega)
    rw [d1, d2, d3, d4]
    have hcond : (bif bif bif bif bif !decide (0 ≤ n.links) then true else !decide (n.links ≤ 120) then true else !decide (0 ≤ n.size) then true else !decide (n.size ≤ 80) then true else !decide (n.seqs.length = 5) then true else !decide (n.ents.length = 0)) = !(within n.links 120 && within n.size 80 && decide (n.seqs.length = 5) && decide (n.ents.length = 0)) := by
      unfold within
      cases decide (0 ≤ n.links) <;> cases decide (n.links ≤ 120) <;> cases decide (0 ≤ n.size) <;> cases decide (n.size ≤ 80) <;> cases decide (n.seqs.length = 5) <;> cases decide (n.ents.length = 0) <;> rfl
    rw [hcond]
    refine br_intro (fun hb => ⟨?_, rfl⟩) (fun hb => ?_)
    · have hb := not_t hb
      unfold fileB; rw [hb]; rfl
    · have hb := not_f hb
      have h5 : n.seqs.length = 5 := by simp at hb; exact hb.1.2
      refine loop1 (k := .int .i64) (fun (x : Int) V' => V' = V ∧ ∃ i : Nat, x = i ∧ i ≤ n.seqs.length ∧ (List.range i).all (okS n.size n.seqs) = true) (fun (x : Int) _ => s.n - x.toNat) ⟨rfl, 0, rfl, by omega, rfl⟩ ?_
      rintro (x : Int) V' ⟨rfl, i, rfl, hi, hall⟩
      refine br_intro (fun hlt => ?_) (fun hge => ?_)
      · have hlt : i < n.seqs.length := by have := of_decide_eq_true hlt; omega
        obtain ⟨ad, ha, hcell, hin⟩ := h.seqs.intN hlt
        refine ⟨by omega, by omega, ad, ha, _, hcell, ?_⟩
        have d5 : decide (n.seqs.getD i 0 < 0) = !decide (0 ≤ n.seqs.getD i 0) := dec_not (by omega)
        have d6 : decide ((1099511627776 : Int) < n.seqs.getD i 0) = !decide (n.seqs.getD i 0 ≤ 1099511627776) := dec_not (by omega)
        rw [d5, d6]
        have hok : okS n.size n.seqs i = ((decide (0 ≤ n.seqs.getD i 0) && decide (n.seqs.getD i 0 ≤ 1099511627776)) && !(decide (n.size ≤ (i : Int) * 16) && !decide (n.seqs.getD i 0 = 0))) := rfl
        refine joinP_cut (fun q V1 => q.1 = (!okS n.size n.seqs i) ∧ V1 = V') (br_intro (fun hc => ⟨?_, rfl⟩) (fun hc => br_intro (fun hz => ⟨inI64 (by omega) (by omega), ?_, rfl⟩) (fun hz => ⟨?_, rfl⟩))) ?_
        · rw [hok]
          cases hA : decide (0 ≤ n.seqs.getD i 0) <;> cases hB : decide (n.seqs.getD i 0 ≤ 1099511627776) <;> rw [hA, hB] at hc <;> first | rfl | cases hc
        · rw [hok, not_t hz]
          cases hA : decide (0 ≤ n.seqs.getD i 0) <;> cases hB : decide (n.seqs.getD i 0 ≤ 1099511627776) <;> rw [hA, hB] at hc <;> first | (cases decide (n.size ≤ (i : Int) * 16) <;> rfl) | cases hc
        · rw [hok, not_f hz]
          cases hA : decide (0 ≤ n.seqs.getD i 0) <;> cases hB : decide (n.seqs.getD i 0 ≤ 1099511627776) <;> rw [hA, hB] at hc <;> first | (cases decide (n.size ≤ (i : Int) * 16) <;> rfl) | cases hc
        · rintro ⟨q, ⟨⟩⟩ V2 ⟨h1, hV⟩
          simp only at h1 hV
          subst h1 hV
          dsimp only [unc]
          refine br_intro (fun hq => ⟨?_, rfl⟩) (fun hq => ⟨inI64 (by omega) (by omega), ⟨rfl, i + 1, by omega, by omega, all_step hall (by simpa using hq)⟩, by omega⟩)
          unfold fileB
          rw [all_stop hlt (by simpa using hq), Bool.and_false]
      · have hge : i = n.seqs.length := by have := of_decide_eq_false hge; omega
        subst hge
        refine ⟨?_, rfl⟩
        unfold fileB; rw [hb, hall]; rfl
  · have h0 : ¬ n.kind = 0 := of_decide_eq_false h0
    have h1 : ¬ n.kind = 1 := of_decide_eq_false h1
    have h2 : ¬ n.kind = 2 := of_decide_eq_false h2
    unfold mayN; rw [if_neg h0, if_neg h1, if_neg h2]
theorem wrap_of_in {n : Int} (h : inI .i64 n) : IntKind.wrap .i64 n = n := by
  have h := inI64_iff.1 h
  unfold IntKind.wrap
  simp [IntKind.signed, IntKind.bits]
  omega
/-! ### which inputs are light -/
theorem light13s_ok {s : Sl} {l : List Ent} {V : View} (h : SlR V s l) : CallV Tryz.prog 46 ⟨[.slice s.a s.n s.c]⟩ V fun r V' => ∃ x : Int, r = .int .i64 x ∧ 0 ≤ x ∧ x ≤ 1 ∧ (x = 0 → l.length ≤ 60) ∧ ((l.length ≤ 10 ∧ ∀ e ∈ l, e.name.size ≤ 8) → x = 0) ∧ V' = V := by
  refine f46_x ?_
  unfold f46_n
  have hn := h.n; have hm := h.lim
  refine loop2 (k := .int .i64) (l := .int .i64) (fun (x : Int) (j : Int) V' => V' = V ∧ ∃ i : Nat, j = i ∧ i ≤ l.length ∧ ((l.length ≤ 10 ∧ ∀ e ∈ l, e.name.size ≤ 8) → 0 ≤ x ∧ x ≤ 8 * i)) (fun _ (j : Int) _ => s.n - j.toNat) ⟨rfl, 0, rfl, by omega, fun _ => by omega⟩ ?_
  rintro (x : Int) (j : Int) V' ⟨rfl, i, rfl, hi, hx⟩
  refine br_intro (fun hlt => ?_) (fun hge => br_intro (fun hc => ⟨1, rfl, by decide, by decide, fun h => absurd h (by decide), fun hs => ?_, rfl⟩) (fun hc => ⟨0, rfl, by decide, by decide, fun _ => ?_, fun _ => rfl, rfl⟩))
  · have hlt : i < l.length := by have := of_decide_eq_true hlt; omega
    obtain ⟨ad, ha, hcell, _, _⟩ := h.entN hlt
    have hw : IntKind.wrap .i64 ((i : Int) + 1) = (i : Int) + 1 := wrap_of_in (inI64 (by omega) (by omega))
    refine ⟨by omega, by omega, ad, ha, _, _, hcell, fun _ => ?_⟩
    rw [hw]
    refine ⟨⟨rfl, i + 1, by omega, by omega, fun hs => ?_⟩, by omega⟩
    have h1 := hx hs
    have h2 := hs.2 (l.getD i default) (by rw [getD_at hlt]; exact List.getElem_mem _)
    have h3 := hs.1
    rw [wrap_of_in (inI64 (by omega) (by omega))]
    omega
  · exfalso
    have h1 := hx hs
    have h3 := hs.1
    rw [decide_eq_false (show ¬ (60 : Int) < (s.n : Int) by omega)] at hc
    have := of_decide_eq_true hc
    omega
  · by_cases h6 : (60 : Int) < (s.n : Int)
    · rw [decide_eq_true h6] at hc; cases hc
    · omega
theorem light14s_ok {n : Nod} {s e : Sl} {V : View} (h : NodR V s e n) : CallV Tryz.prog 17 ⟨[nodV n s e]⟩ V fun r V' => ∃ x : Int, r = .int .i64 x ∧ 0 ≤ x ∧ x ≤ 1 ∧ (x = 0 → n.seqs.length ≤ 60 ∧ n.ents.length ≤ 60) ∧ (mayN n = true → x = 0) ∧ V' = V := by
  refine f17_x ?_
  unfold f17_n
  have hn := h.seqs.n
  refine fun _ => br_intro (fun hb => ⟨1, rfl, by decide, by decide, fun h => absurd h (by decide), fun hm => ?_, rfl⟩) (fun hb => (light13s_ok h.ents).mono ?_)
  · exfalso
    have hb := of_decide_eq_true hb
    have := mayN_seqs hm
    omega
  · have hb := of_decide_eq_false hb
    rintro r V' ⟨x, rfl, h1, h2, h3, h4, rfl⟩
    exact ⟨x, rfl, x, rfl, h1, h2, fun hx => ⟨by omega, h3 hx⟩, fun hm => h4 ⟨mayL_len (mayN_ents hm), fun e he => (mayB_size (mayL_node (mayN_ents hm) he).2.2).2⟩, rfl⟩
/-- A tree that can be gone through. -/
def LightT (t : Tre) : Prop := t.length ≤ 40 ∧ ∀ n ∈ t, n.seqs.length ≤ 60 ∧ n.ents.length ≤ 60
theorem light15s_ok {s : Sl} {t : Tre} {V : View} (h : SlR V s t) : CallV Tryz.prog 5 ⟨[treV s]⟩ V fun r V' => ∃ x : Int, r = .int .i64 x ∧ 0 ≤ x ∧ x ≤ 40 ∧ (x = 0 → LightT t) ∧ ((t.length = 12 ∧ ∀ n ∈ t, mayN n = true) → x = 0) ∧ V' = V := by
  refine f5_x ?_
  unfold f5_n
  have hn := h.n
  refine fun _ => br_intro (fun h40 => ⟨1, rfl, by decide, by decide, fun h => absurd h (by decide), fun hm => ?_, rfl⟩) (fun h40 => ?_)
  · exfalso
    have h40 := of_decide_eq_true h40
    omega
  have h40 := of_decide_eq_false h40
  refine loop2 (k := .int .i64) (l := .int .i64) (fun (x : Int) (j : Int) V' => V' = V ∧ ∃ i : Nat, j = i ∧ i ≤ t.length ∧ 0 ≤ x ∧ x ≤ i ∧ (x = 0 → ∀ n ∈ t.take i, n.seqs.length ≤ 60 ∧ n.ents.length ≤ 60) ∧ ((t.length = 12 ∧ ∀ n ∈ t, mayN n = true) → x = 0)) (fun _ (j : Int) _ => s.n - j.toNat) ⟨rfl, 0, rfl, by omega, by omega, by omega, fun _ n hn => by simp at hn, fun _ => rfl⟩ ?_
  rintro (x : Int) (j : Int) V' ⟨rfl, i, rfl, hi, h0, h1, h2, h3⟩
  refine br_intro (fun hlt => ?_) (fun hge => ?_)
  · have hlt : i < t.length := by have := of_decide_eq_true hlt; omega
    obtain ⟨ad, sq, en, ha, hc, hN⟩ := h.nodN hlt
    refine ⟨by omega, by omega, ad, ha, _, _, _, sq, en, hc, fun _ => (light14s_ok hN).mono ?_⟩
    rintro r V1 ⟨y, rfl, y0, y1, y2, y3, rfl⟩
    refine ⟨y, rfl, inI64 (by omega) (by omega), inI64 (by omega) (by omega), ⟨rfl, i + 1, by omega, by omega, by omega, by omega, fun hxy n hn => ?_, fun hm => ?_⟩, by omega⟩
    · rw [List.take_add_one, List.getElem?_eq_getElem hlt] at hn
      rcases List.mem_append.1 hn with hn | hn
      · exact h2 (by omega) n hn
      · simp at hn
        subst hn
        have := y2 (by omega)
        rw [getD_at hlt] at this; exact this
    · have := y3 (hm.2 _ (by rw [getD_at hlt]; exact List.getElem_mem _))
      have := h3 hm
      omega
  · have hge : i = t.length := by have := of_decide_eq_false hge; omega
    subst hge
    rw [List.take_length] at h2
    exact ⟨x, rfl, h0, by omega, fun hx => ⟨by omega, h2 hx⟩, h3, rfl⟩
theorem light15_ok {s : Sl} {t : Tre} {V : View} (h : SlR V s t) : CallV Tryz.prog 5 ⟨[treV s]⟩ V fun r V' => ∃ x : Int, r = .int .i64 x ∧ 0 ≤ x ∧ x ≤ 40 ∧ (x = 0 → t.length ≤ 40) ∧ V' = V :=
  (light15s_ok h).mono fun _ _ ⟨x, a, b, c, d, _, e⟩ => ⟨x, a, b, c, fun h => (d h).1, e⟩
end Go.Proofs.YtdlgpolngnkiaaaGreatDoor

/- The reference's MayTree: it answers as dir.May does. -/
namespace Go.Proofs.YtdlgpolngnkiaaaGreatDoor
open Go
def nodK (t : Tre) (i : Nat) : Bool := mayN (t.getD i default) && (entsT t i).all fun e => !decide (kindT t e.node.toNat = 0)
abbrev namedT (t : Tre) (a : Int) : Nat := (allE t).countP (fun (x : Ent) => decide (x.node = a))
noncomputable def onT (t : Tre) (i : Nat) : Bool := metB t 0 i && decide (kindT t i = 2)
noncomputable def hang2 (t : Tre) (i : Nat) : Bool :=
  if kindT t i = 2 then onT t i && (decide (i = 0) || decide (((namedT t i : Nat) : Int) = 1)) else if kindT t i = 1 then decide ((t.getD i default).links = (namedT t i : Nat)) else true
noncomputable def refMay (t : Tre) : Bool := decide (t.length = 12) && decide (kindT t 0 = 2) && (List.range 12).all (nodK t) && apartL (allS t) && (List.range 12).all (hang2 t)
theorem kind_of {n : Nod} (h : mayN n = true) : n.kind = 0 ∨ n.kind = 1 ∨ n.kind = 2 := by
  unfold mayN at h
  split at h
  · rename_i hk; exact .inl hk
  · split at h
    · rename_i hk; exact .inr (.inl hk)
    · split at h
      · rename_i hk; exact .inr (.inr hk)
      · cases h
theorem refMay_eq (t : Tre) : refMay t = mayT t := by
  by_cases h12 : t.length = 12
  rotate_left
  · unfold refMay mayT; rw [decide_eq_false h12]; rfl
  by_cases hk : kindT t 0 = 2
  rotate_left
  · unfold refMay mayT; rw [decide_eq_false hk]; simp
  by_cases hall : t.all mayN = true
  rotate_left
  · unfold refMay mayT
    have h1 : t.all mayN = false := by simpa using hall
    have h2 : (List.range 12).all (nodK t) = false := by
      rw [List.all_eq_false] at h1 ⊢
      obtain ⟨n, hn, hm⟩ := h1
      obtain ⟨i, hi, rfl⟩ := List.getElem_of_mem hn
      refine ⟨i, List.mem_range.2 (by omega), ?_⟩
      unfold nodK
      rw [getD_at hi]
      simp [hm]
    rw [h1, h2]; simp
  have hall' : ∀ n ∈ t, mayN n = true := List.all_eq_true.1 hall
  have hmem : ∀ i, i < 12 → t.getD i default ∈ t := fun i hi => by rw [getD_at (by omega)]; exact List.getElem_mem _
  have hmn : ∀ i, i < 12 → mayN (t.getD i default) = true := fun i hi => hall' _ (hmem i hi)
  unfold refMay mayT
  rw [decide_eq_true h12, decide_eq_true hk, hall]
  simp only [Bool.true_and, Bool.and_true]
  have hcnt : ∀ i, i < 12 → (cnt 12 (allE t)).getD i 0 = (namedT t i : Nat) := fun i hi => cnt_get 12 _ hi
  have hin : ∀ (i : Nat) (e : Ent), i < 12 → e ∈ entsT t i → e ∈ allE t := fun i e hi he => List.mem_flatMap.2 ⟨_, hmem i hi, he⟩
  rw [Bool.eq_iff_iff]
  simp only [Bool.and_eq_true, List.all_eq_true, List.mem_range]
  constructor
  · rintro ⟨⟨hN, hA⟩, hH⟩
    refine ⟨fun i hi => ?_, hA⟩
    have h2 := hH i hi
    rw [hcnt i hi]
    unfold hang2 at h2
    unfold hangB
    split at h2
    · rename_i hk2
      rw [if_pos hk2]
      unfold onT at h2
      simp only [Bool.and_eq_true] at h2
      rw [h2.1.1, Bool.true_and, ← h2.2]
      congr 1
      exact decide_eq_decide.2 (by omega)
    · rename_i hk2
      rw [if_neg hk2]
      split at h2
      · rename_i hk1; rw [if_pos hk1]; exact h2
      · rename_i hk1
        rw [if_neg hk1]
        have hk0 : kindT t i = 0 := by
          rcases kind_of (hmn i hi) with h | h | h
          · exact h
          · exact absurd h hk1
          · exact absurd h hk2
        apply decide_eq_true
        have : namedT t i = 0 := by
          rw [List.countP_eq_zero]
          intro e he hd
          have hd := of_decide_eq_true hd
          obtain ⟨n, hn, hen⟩ := List.mem_flatMap.1 he
          obtain ⟨j, hj, rfl⟩ := List.getElem_of_mem hn
          have hj12 : j < 12 := by omega
          have h3 := hN j hj12
          unfold nodK at h3
          simp only [Bool.and_eq_true, List.all_eq_true] at h3
          have h4 := h3.2 e (by show e ∈ (t.getD j default).ents; rw [getD_at hj]; exact hen)
          rw [hd, Int.toNat_natCast] at h4
          simp [hk0] at h4
        omega
  · rintro ⟨hH, hA⟩
    have hB : ∀ i, i < 12 → hangB (t.getD i default) i (namedT t i : Nat) (metB t 0 i) = true := fun i hi => by rw [← hcnt i hi]; exact hH i hi
    refine ⟨⟨fun i hi => ?_, hA⟩, fun i hi => ?_⟩
    · unfold nodK
      rw [hmn i hi, Bool.true_and, List.all_eq_true]
      intro e he
      have hnode := mayL_node (mayN_ents (hmn i hi)) he
      obtain ⟨q, hq⟩ : ∃ q : Nat, e.node = q := ⟨e.node.toNat, by omega⟩
      rw [hq, Int.toNat_natCast]
      have hb := hB q (by omega)
      by_cases hk0 : kindT t q = 0
      · exfalso
        unfold hangB at hb
        have hk0' : (t.getD q default).kind = 0 := hk0
        rw [if_neg (by omega), if_neg (by omega)] at hb
        have hb := of_decide_eq_true hb
        have : 0 < namedT t q := List.countP_pos_iff.2 ⟨e, hin i e hi he, decide_eq_true hq⟩
        omega
      · rw [decide_eq_false hk0]; rfl
    · have hb := hB i hi
      unfold hangB at hb
      unfold hang2
      split at hb
      · rename_i hk2
        rw [if_pos (show kindT t i = 2 from hk2)]
        simp only [Bool.and_eq_true] at hb
        unfold onT
        rw [hb.1, decide_eq_true (show kindT t i = 2 from hk2), Bool.true_and, Bool.true_and, ← hb.2]
        congr 1
        exact decide_eq_decide.2 (by omega)
      · rename_i hk2
        rw [if_neg (show ¬ kindT t i = 2 from hk2)]
        split at hb
        · rename_i hk1; rw [if_pos (show kindT t i = 1 from hk1)]; exact hb
        · rename_i hk1; rw [if_neg (show ¬ kindT t i = 1 from hk1)]
/-- A map that holds 1 behind what was met. -/
def SeenM (V : View) (r : Nat) (l : List Int) : Prop := ∃ es cl, V.see r = some (.map es cl) ∧ IntK es.toList ∧ ∀ k, (vlk k es.toList).getD (.int .i64 0) = .int .i64 (if k ∈ l then 1 else 0)
theorem SeenM.put {V : View} {r : Nat} {l : List Int} (h : SeenM V r l) (x : Int) : ∃ es cl f, V.see r = some (.map es cl) ∧ mfind (.int .i64 x) es.toList 0 = some f ∧ found (.int .i64 0) f = .int .i64 (if x ∈ l then 1 else 0) ∧ SeenM (V.put r (mput es cl f (.int .i64 x) (.int .i64 1))) r (l ++ [x]) := by
  obtain ⟨es, cl, hs, hk, hv⟩ := h
  obtain ⟨f, hf, hfd, es', cl', hm, hk', hv'⟩ := mput_int (cl := cl) (k := x) (v := .int .i64 1) hk
  refine ⟨es, cl, f, hs, hf, by rw [hfd, hv], es', cl', by rw [View.see_put_same, hm], hk', fun k => ?_⟩
  rw [hv']
  by_cases e : k = x
  · rw [if_pos e, if_pos (by simp [e])]; rfl
  · rw [if_neg e, hv]
    by_cases hm : k ∈ l
    · rw [if_pos hm, if_pos (by simp [hm])]
    · rw [if_neg hm, if_neg (by simp [hm, e])]
theorem apart_snoc2 {l : List Int} {x : Int} (h : apartL l = true) : apartL (l ++ [x]) = !(!decide (x = 0) && decide (x ∈ l)) := by
  rw [apart_snoc h, count_snoc, if_pos rfl]
  have : decide (1 < l.count x + 1) = decide (x ∈ l) := decide_eq_decide.2 (by rw [← List.count_pos_iff]; omega)
  rw [this]
theorem refMay_false {t : Tre} (h : (decide (t.length = 12) && decide (kindT t 0 = 2) && (List.range 12).all (nodK t) && apartL (allS t)) = false ∨ (List.range 12).all (hang2 t) = false) : refMay t = false := by
  unfold refMay
  rcases h with h | h
  · rw [h]; rfl
  · rw [h, Bool.and_false]
theorem refMay_bad {t : Tre} {i : Nat} (hi : i < 12) (h : nodK t i = false) : refMay t = false := refMay_false (.inl (by rw [all_stop hi h]; simp))
theorem refMay_twice {t : Tre} (h : apartL (allS t) = false) : refMay t = false := refMay_false (.inl (by rw [h]; simp))
theorem mayTree_ok {s : Sl} {t : Tre} {V : View} (h : SlR V s t) : CallV Tryz.prog 11 ⟨[treV s]⟩ V fun r V' => r = .bool (mayT t) ∧ V.Le V' := by
  rw [← refMay_eq]
  refine f11_x ?_
  unfold f11_n
  have hn := h.n
  refine fun _ => joinP_cut (fun q V' => q.1 = (!(decide (t.length = 12) && decide (kindT t 0 = 2))) ∧ V' = V) (br_intro (fun hb => ⟨?_, rfl⟩) (fun hb => ?_)) ?_
  · have hb : ¬ t.length = 12 := by have := of_decide_eq_false (not_t hb); omega
    rw [decide_eq_false hb]; rfl
  · have hb : t.length = 12 := by have := of_decide_eq_true (not_f hb); omega
    obtain ⟨ad, sq, en, ha, hc, hN⟩ := h.nodN (i := 0) (by omega)
    refine ⟨by omega, by omega, ad, ha, _, cellsAt_nth hc 0 rfl, ?_, rfl⟩
    rw [decide_eq_true hb]; rfl
  rintro ⟨q, ⟨⟩⟩ V1 ⟨h1, hV⟩
  simp only at h1 hV
  subst h1 hV
  dsimp only [unc]
  refine br_intro (fun hb => ⟨?_, View.Le.refl _⟩) (fun hb r hr => ?_)
  · have hb := not_t hb
    rw [refMay_false (.inl (by rw [hb]; rfl))]
  have hb := not_f hb
  simp only [Bool.and_eq_true, decide_eq_true_eq] at hb
  obtain ⟨h12, hk0⟩ := hb
  have hfr := View.see_none_of_ge hr
  refine loop1 (k := .int .i64) (fun (x : Int) V' => ∃ i : Nat, x = i ∧ i ≤ 12 ∧ (List.range i).all (nodK t) = true ∧ apartL (allS (t.take i)) = true ∧ SeenM V' r (allS (t.take i)) ∧ V1.Le (V'.hide r)) (fun (x : Int) _ => 12 - x.toNat) ⟨0, rfl, by omega, rfl, rfl, ⟨_, _, View.see_put_same _ _ _, fun e he => (by cases he), fun k => rfl⟩, put_le_hide hfr (View.Le.refl _)⟩ ?_
  rintro (x : Int) V2 ⟨i, rfl, hi, hall, hap, hS2, hV2⟩
  have hV2' : V1.Le V2 := hV2.trans (View.hide_le _ _)
  refine br_intro (fun hlt => ?_) (fun hge => ?_)
  · have hlt : i < 12 := by have := of_decide_eq_true hlt; omega
    obtain ⟨ad, sq, en, ha, hc, hN⟩ := h.nodN (i := i) (by omega)
    refine ⟨by omega, by omega, ad, ha, _, _, _, sq, en, cellsAt_mono hV2' hc, fun _ => (refN_ok (hN.mono hV2')).mono ?_⟩
    rintro r1 V3 ⟨rfl, rfl⟩
    refine ⟨_, rfl, br_intro (fun hb => ⟨?_, hV2'⟩) (fun hb => ?_)⟩
    · rw [refMay_bad hlt (by unfold nodK; rw [not_t hb]; rfl)]
    have hm := not_f hb
    have hen := hN.ents.n
    have hsn := hN.seqs.n
    have hs5 := mayN_seqs hm
    have he10 := mayL_len (mayN_ents hm)
    refine loop1 (k := .int .i64) (fun (x : Int) V' => V' = V3 ∧ ∃ k : Nat, x = k ∧ k ≤ (entsT t i).length ∧ ((entsT t i).take k).all (fun e => !decide (kindT t e.node.toNat = 0)) = true) (fun (x : Int) _ => (entsT t i).length - x.toNat) ⟨rfl, 0, rfl, by omega, rfl⟩ ?_
    rintro (x : Int) V4 ⟨rfl, k, rfl, hk, hek⟩
    have hlene : (entsT t i).length = (t.getD i default).ents.length := rfl
    refine br_intro (fun hltk => ?_) (fun hge => ?_)
    · have hltk : k < (t.getD i default).ents.length := by have := of_decide_eq_true hltk; omega
      obtain ⟨ad, ha, hc, _, _⟩ := (hN.ents.mono hV2').entN hltk
      have hxm : (t.getD i default).ents.getD k default ∈ (t.getD i default).ents := by rw [getD_at hltk]; exact List.getElem_mem _
      have hq := mayL_node (mayN_ents hm) hxm
      obtain ⟨q, hqe⟩ : ∃ q : Nat, ((t.getD i default).ents.getD k default).node = q := ⟨((t.getD i default).ents.getD k default).node.toNat, by omega⟩
      obtain ⟨ad4, sq4, en4, ha4, hc4, _⟩ := (h.mono hV2').nodN (i := q) (by omega)
      refine ⟨by omega, by omega, ad, ha, _, _, hc, fun _ => ⟨by omega, by omega, ad4, ha4, (t.getD q default).kind, ?_, br_intro (fun hz => ⟨?_, hV2'⟩) (fun hz => ⟨inI64 (by omega) (by omega), ⟨rfl, k + 1, by omega, by omega, ?_⟩, by omega⟩)⟩⟩
      · rw [hqe]; exact cellsAt_nth hc4 0 rfl
      · have hz := of_decide_eq_true hz
        rw [refMay_bad hlt]
        unfold nodK
        rw [Bool.and_eq_false_iff]
        right
        rw [List.all_eq_false]
        exact ⟨_, hxm, by rw [hqe, Int.toNat_natCast, decide_eq_true (show kindT t q = 0 from hz)]; simp⟩
      · have hz := of_decide_eq_false hz
        rw [List.take_add_one, List.getElem?_eq_getElem (show k < (entsT t i).length from hltk), List.all_append, hek]
        have e1 : (entsT t i)[k]'hltk = (t.getD i default).ents.getD k default := (getD_at hltk).symm
        show (true && [(entsT t i)[k]'hltk].all _) = true
        rw [e1]
        simp only [List.all_cons, List.all_nil, hqe, Int.toNat_natCast, Bool.true_and, Bool.and_true]
        rw [decide_eq_false (show ¬ kindT t q = 0 from hz)]; rfl
    · have hge : k = (entsT t i).length := by have := of_decide_eq_false hge; omega
      subst hge
      rw [List.take_length] at hek
      have hnk : nodK t i = true := by unfold nodK; rw [hm, hek]; rfl
      have hpre := allS_prefix t (i + 1)
      rw [allS_take (by omega)] at hpre
      have htake := allS_take (t := t) (i := i) (by omega)
      generalize hnd : t.getD i default = nd at *
      refine loop1 (k := .int .i64) (fun (x : Int) V' => ∃ k : Nat, x = k ∧ k ≤ nd.seqs.length ∧ SeenM V' r (allS (t.take i) ++ nd.seqs.take k) ∧ apartL (allS (t.take i) ++ nd.seqs.take k) = true ∧ V1.Le (V'.hide r)) (fun (x : Int) _ => nd.seqs.length - x.toNat) ⟨0, rfl, by omega, by simpa using hS2, by simpa using hap, hV2⟩ ?_
      rintro (x : Int) V5 ⟨k, rfl, hk, hS5, hap5, hV5⟩
      have hV5' : V1.Le V5 := hV5.trans (View.hide_le _ _)
      refine br_intro (fun hltk => ?_) (fun hge => ?_)
      · have hltk : k < nd.seqs.length := by have := of_decide_eq_true hltk; omega
        obtain ⟨ad, ha, hc, _⟩ := (hN.seqs.mono hV5').intN hltk
        have etk : nd.seqs.take (k + 1) = nd.seqs.take k ++ [nd.seqs.getD k 0] := by rw [List.take_add_one, List.getElem?_eq_getElem hltk, getD_at0 hltk]; rfl
        have hpre2 : allS (t.take i) ++ nd.seqs.take (k + 1) <+: allS t := by
          refine List.IsPrefix.trans ?_ hpre
          rw [List.prefix_append_right_inj]
          exact List.take_prefix _ _
        rw [etk, ← List.append_assoc] at hpre2
        refine ⟨by omega, by omega, ad, ha, _, hc, ?_⟩
        generalize nd.seqs.getD k 0 = x at *
        obtain ⟨es, cl, f, hse, hmf, hfd, hput⟩ := hS5.put x
        refine joinP_cut (fun q V' => q.1 = (!apartL (allS (t.take i) ++ nd.seqs.take k ++ [x])) ∧ V' = V5) (br_intro (fun hx0 => ⟨trivial, es, cl, f, hse, hmf, _, hfd, ?_, rfl⟩) (fun hx0 => ⟨?_, rfl⟩)) ?_
        · rw [apart_snoc2 hap5, hx0, Bool.true_and, Bool.not_not]
          by_cases hm : x ∈ allS (t.take i) ++ nd.seqs.take k
          · rw [if_pos hm, decide_eq_true hm]; rfl
          · rw [if_neg hm, decide_eq_false hm]; rfl
        · rw [apart_snoc2 hap5, hx0]; rfl
        · rintro ⟨q, ⟨⟩⟩ V6 ⟨h1, hV⟩
          simp only at h1 hV
          subst h1 hV
          dsimp only [unc]
          refine br_intro (fun hb => ⟨?_, hV5'⟩) (fun hb => ⟨trivial, r, es, cl, f, rfl, hse, hmf, inI64 (by omega) (by omega), ⟨k + 1, by omega, by omega, ?_, ?_, hV5.trans (hide_le_put_hide r _)⟩, by omega⟩)
          · rw [refMay_twice (apart_prefix hpre2 (not_t hb))]
          · rw [etk, ← List.append_assoc]; exact hput
          · rw [etk, ← List.append_assoc]; exact not_f hb
      · have hge : k = nd.seqs.length := by have := of_decide_eq_false hge; omega
        subst hge
        rw [List.take_length] at hS5 hap5
        exact ⟨inI64 (by omega) (by omega), ⟨i + 1, by omega, by omega, all_step hall hnk, by rw [htake]; exact hap5, by rw [htake]; exact hS5, hV5⟩, by omega⟩
  · have hge : i = 12 := by have := of_decide_eq_false hge; omega
    subst hge
    rw [List.take_of_length_le (by omega)] at hap
    have hnod : ∀ i, i < 12 → nodK t i = true := fun i hi => List.all_eq_true.1 hall i (List.mem_range.2 hi)
    have hallN : ∀ n ∈ t, mayN n = true := fun n hn => by
      obtain ⟨j, hj, rfl⟩ := List.getElem_of_mem hn
      have := hnod j (by omega)
      unfold nodK at this
      rw [getD_at hj] at this
      simp only [Bool.and_eq_true] at this
      exact this.1
    have hR : refMay t = (List.range 12).all (hang2 t) := by
      unfold refMay
      rw [decide_eq_true h12, decide_eq_true hk0, hall, hap]; rfl
    rw [hR]
    have hE : ∀ n ∈ t, n.ents.length ≤ 10 := fun n hn => mayL_len (mayN_ents (hallN n hn))
    refine (reached_ok (a := 0) (h.mono hV2') h12 hallN (by omega) hk0).mono ?_
    rintro r1 V3 ⟨y, rfl, hy, hV3⟩
    have hV13 := hV2'.trans hV3
    refine ⟨y, rfl, ?_⟩
    refine loop1 (k := .int .i64) (fun (x : Int) V' => V' = V3 ∧ ∃ i : Nat, x = i ∧ i ≤ 12 ∧ (List.range i).all (hang2 t) = true) (fun (x : Int) _ => 12 - x.toNat) ⟨rfl, 0, rfl, by omega, rfl⟩ ?_
    rintro (x : Int) V4 ⟨rfl, i, rfl, hi, hP⟩
    refine br_intro (fun hlt => ?_) (fun hge => ?_)
    · have hlt : i < 12 := by have := of_decide_eq_true hlt; omega
      obtain ⟨ad, sq, en, ha, hc, hN⟩ := (h.mono hV13).nodN (i := i) (by omega)
      refine ⟨by omega, by omega, ad, ha, _, _, _, sq, en, hc, fun _ => (named_ok (h.mono hV13) h12 hE).mono ?_⟩
      rintro r1 V5 ⟨rfl, rfl⟩
      refine ⟨_, rfl, ?_⟩
      have hyn := hy.n
      simp only [List.length_map, List.length_range] at hyn
      refine joinP_cut (fun q V' => q.1 = (!hang2 t i) ∧ V' = V5) (br_intro (fun h2 => ?_) (fun h2 => ⟨?_, rfl⟩)) ?_
      · have h2 : kindT t i = 2 := of_decide_eq_true h2
        obtain ⟨ad3, hx', ha3, hc3⟩ := hy.bool (x := (i : Int)) (by omega) (by omega)
        have e3 : ((List.range 12).map fun j => metB t 0 j && decide (kindT t j = 2))[((i : Int)).toNat] = onT t i := by simp [onT]
        rw [e3] at hc3
        refine ⟨by omega, by omega, ad3, ha3, _, hc3, ?_, rfl⟩
        unfold hang2
        rw [if_pos h2]
        have h2' : (t.getD i default).kind = 2 := h2
        rw [decide_eq_false (show ¬ (t.getD i default).kind = 1 by omega)]
        have d1 : decide ((0 : Int) < (i : Int)) = !decide (i = 0) := dec_not (by omega)
        rw [d1]
        cases onT t i <;> cases decide (i = 0) <;> cases decide (((namedT t i : Nat) : Int) = 1) <;> rfl
      · have h2 : ¬ kindT t i = 2 := of_decide_eq_false h2
        unfold hang2
        rw [if_neg h2]
        by_cases h1 : kindT t i = 1
        · rw [if_pos h1, decide_eq_true (show (t.getD i default).kind = 1 from h1)]; rfl
        · rw [if_neg h1, decide_eq_false (show ¬ (t.getD i default).kind = 1 from h1)]; rfl
      · rintro ⟨q, ⟨⟩⟩ V6 ⟨h1, hV⟩
        simp only at h1 hV
        subst h1 hV
        dsimp only [unc]
        refine br_intro (fun hb => ⟨?_, hV13⟩) (fun hb => ⟨inI64 (by omega) (by omega), ⟨rfl, i + 1, by omega, by omega, all_step hP (not_f hb)⟩, by omega⟩)
        rw [all_stop hlt (not_t hb)]
    · have hge : i = 12 := by have := of_decide_eq_false hge; omega
      subst hge
      exact ⟨by rw [hP], hV13⟩
end Go.Proofs.YtdlgpolngnkiaaaGreatDoor

/- How the nodes of a tree that may be hang together: plain laws. -/
namespace Go.Proofs.YtdlgpolngnkiaaaGreatDoor
open Go
theorem Reach.trans {t : Tre} {a b c : Nat} (h : Reach t a b) (k : Reach t b c) : Reach t a c := by
  induction k with
  | refl => exact h
  | step _ hx ih => exact .step ih hx
theorem allE_cons (n : Nod) (t : Tre) : allE (n :: t) = n.ents ++ allE t := by simp [allE]
theorem named_one {t : Tre} {x : Int} : ∀ {i : Nat} {e : Ent}, e ∈ (t.getD i default).ents → e.node = x → 1 ≤ namedT t x := by
  intro i e he hx
  refine List.countP_pos_iff.2 ⟨e, ?_, decide_eq_true hx⟩
  unfold allE
  refine List.mem_flatMap.2 ⟨t.getD i default, ?_, he⟩
  by_cases hi : i < t.length
  · exact getD_mem hi
  · rw [List.getD_eq_getElem?_getD, List.getElem?_eq_none (by omega)] at he
    cases he
theorem named_two {x : Int} : ∀ {t : Tre} {i p : Nat} {e e' : Ent}, i < p → e ∈ (t.getD i default).ents → e' ∈ (t.getD p default).ents → e.node = x → e'.node = x → 2 ≤ namedT t x
  | [], i, p, e, e', _, he, _, _, _ => by cases he
  | n :: t, 0, p + 1, e, e', _, he, he', hx, hx' => by
    unfold namedT
    rw [allE_cons, List.countP_append]
    have h1 : 1 ≤ n.ents.countP fun x_1 => decide (x_1.node = x) := List.countP_pos_iff.2 ⟨e, by simpa using he, decide_eq_true hx⟩
    have h2 : 1 ≤ namedT t x := named_one (i := p) (e := e') (by simpa using he') hx'
    unfold namedT at h2
    omega
  | n :: t, i + 1, p + 1, e, e', hip, he, he', hx, hx' => by
    have h := named_two (t := t) (i := i) (p := p) (by omega) (by simpa using he) (by simpa using he') hx hx'
    unfold namedT at h ⊢
    rw [allE_cons, List.countP_append]
    omega
theorem named_same {t : Tre} {x : Int} (h : namedT t x ≤ 1) {i p : Nat} {e e' : Ent} (he : e ∈ (t.getD i default).ents) (he' : e' ∈ (t.getD p default).ents) (hx : e.node = x) (hx' : e'.node = x) : i = p := by
  rcases Nat.lt_trichotomy i p with hl | hl | hl
  · have := named_two hl he he' hx hx'; omega
  · exact hl
  · have := named_two hl he' he hx' hx; omega
/-- What is known of a tree that may be. -/
structure MayF (t : Tre) : Prop where
  len : t.length = 12
  may : ∀ n ∈ t, mayN n = true
  top : kindT t 0 = 2
  dir : ∀ i, i < 12 → kindT t i = 2 → Reach t 0 i ∧ (i = 0 ∨ namedT t i = 1)
  file : ∀ i, i < 12 → kindT t i = 1 → (t.getD i default).links = (namedT t i : Nat)
  none : ∀ i, i < 12 → kindT t i = 0 → namedT t i = 0
theorem mayF {t : Tre} (h : mayT t = true) : MayF t := by
  obtain ⟨h12, hall, hk, hh, _⟩ := mayT_all h
  have hc : ∀ i, i < 12 → (cnt 12 (allE t)).getD i 0 = (namedT t i : Nat) := fun i hi => cnt_get 12 (allE t) hi
  refine ⟨h12, hall, hk, fun i hi hk2 => ?_, fun i hi hk1 => ?_, fun i hi hk0 => ?_⟩
  · have hb := hh i hi
    rw [hc i hi] at hb
    unfold hangB at hb
    rw [if_pos (show (t.getD i default).kind = 2 from hk2)] at hb
    simp only [Bool.and_eq_true, Bool.or_eq_true, decide_eq_true_eq] at hb
    exact ⟨metB_iff.1 hb.1, by omega⟩
  · have hb := hh i hi
    rw [hc i hi] at hb
    unfold hangB at hb
    rw [if_neg (show ¬ (t.getD i default).kind = 2 by unfold kindT at hk1; omega), if_pos (show (t.getD i default).kind = 1 from hk1)] at hb
    exact of_decide_eq_true hb
  · have hb := hh i hi
    rw [hc i hi] at hb
    unfold hangB at hb
    rw [if_neg (show ¬ (t.getD i default).kind = 2 by unfold kindT at hk0; omega), if_neg (show ¬ (t.getD i default).kind = 1 by unfold kindT at hk0; omega)] at hb
    have := of_decide_eq_true hb
    omega
theorem MayF.at {t : Tre} (h : MayF t) {i : Nat} (hi : i < 12) : mayN (t.getD i default) = true := h.may _ (getD_mem (by rw [h.len]; exact hi))
theorem MayF.ent {t : Tre} (h : MayF t) {i : Nat} {e : Ent} (he : e ∈ entsT t i) : i < 12 ∧ kindT t i = 2 ∧ 1 ≤ e.node ∧ e.node < 12 ∧ mayB e.name = true ∧ kindT t e.node.toNat ≠ 0 := by
  have hi : i < 12 := by
    apply Classical.byContradiction
    intro hi
    unfold entsT at he
    rw [List.getD_eq_getElem?_getD, List.getElem?_eq_none (by rw [h.len]; omega)] at he
    cases he
  have hm := h.at hi
  have hn := mayL_node (mayN_ents hm) he
  refine ⟨hi, ?_, hn.1, hn.2.1, hn.2.2, fun hk => ?_⟩
  · rcases kind_of hm with hk | hk | hk
    · exfalso
      unfold mayN at hm
      rw [if_pos hk] at hm
      simp only [Bool.and_eq_true, decide_eq_true_eq] at hm
      have : (t.getD i default).ents = [] := List.eq_nil_of_length_eq_zero hm.2
      unfold entsT at he
      rw [this] at he; cases he
    · exfalso
      unfold mayN at hm
      rw [if_neg (by omega), if_pos hk] at hm
      unfold fileB at hm
      simp only [Bool.and_eq_true, decide_eq_true_eq] at hm
      have : (t.getD i default).ents = [] := List.eq_nil_of_length_eq_zero hm.1.2
      unfold entsT at he
      rw [this] at he; cases he
    · exact hk
  · have h0 := h.none e.node.toNat (by omega) hk
    have h1 := named_one (t := t) (x := ((e.node.toNat : Nat) : Int)) (i := i) he (by omega)
    omega
theorem MayF.reach_lt {t : Tre} (h : MayF t) {a b : Nat} (ha : a < 12) (hr : Reach t a b) : b < 12 := by
  cases hr with
  | refl => exact ha
  | step _ hx => have := h.ent hx; omega
/-- The root is named by nobody. -/
theorem MayF.zero {t : Tre} (h : MayF t) {i : Nat} {e : Ent} (he : e ∈ entsT t i) : e.node.toNat ≠ 0 := by
  have := h.ent he; omega
/-- A file leads nowhere. -/
theorem reach_leaf {t : Tre} {a b : Nat} (h : entsT t a = []) (hr : Reach t a b) : b = a := by
  induction hr with
  | refl => rfl
  | step _ hx ih =>
    subst ih
    unfold entsT at h
    rw [h] at hx; cases hx
theorem reach_first {t : Tre} {a b : Nat} (hr : Reach t a b) : a = b ∨ ∃ e ∈ entsT t a, Reach t e.node.toNat b := by
  induction hr with
  | refl => exact .inl rfl
  | step h hx ih =>
    right
    rcases ih with rfl | ⟨e, he, hr⟩
    · exact ⟨_, hx, .refl⟩
    · exact ⟨e, he, .step hr hx⟩
/-- One comes back nowhere. -/
theorem MayF.nocycle {t : Tre} (h : MayF t) {a : Nat} {e0 : Ent} (he0 : e0 ∈ entsT t a) (hba : Reach t e0.node.toNat a) : False := by
  have ha := (h.ent he0).1
  let C : Nat → Prop := fun x => Reach t a x ∧ Reach t x a
  have pred : ∀ x, C x → ∃ p e, C p ∧ e ∈ entsT t p ∧ e.node.toNat = x := by
    rintro x ⟨h1, h2⟩
    by_cases hx : x = a
    · subst hx
      rcases Nat.decEq e0.node.toNat x with hne | heq
      · cases hba with
        | refl => exact absurd rfl hne
        | step hp hx => exact ⟨_, _, ⟨(Reach.step .refl he0).trans hp, .step .refl hx⟩, hx, rfl⟩
      · exact ⟨x, e0, ⟨.refl, .refl⟩, he0, heq⟩
    · cases h1 with
      | refl => exact absurd rfl hx
      | step hp he => exact ⟨_, _, ⟨hp, (Reach.step .refl he).trans h2⟩, he, rfl⟩
  have dirC : ∀ x, C x → kindT t x = 2 := by
    rintro x ⟨h1, h2⟩
    by_cases hx : x = a
    · subst hx
      exact (h.ent he0).2.1
    · rcases reach_first h2 with e | ⟨e, he, _⟩
      · exact absurd e hx
      · exact (h.ent he).2.1
  have no : ∀ x, Reach t 0 x → ¬ C x := by
    intro x hr
    induction hr with
    | refl =>
      intro hc
      obtain ⟨p, e, _, he, h0⟩ := pred _ hc
      exact h.zero he h0
    | @step i e hi he ih =>
      intro hc
      obtain ⟨p, e', hp, he', hx⟩ := pred _ hc
      have hq := h.ent he
      have hq' := h.ent he'
      have hd := (h.dir e.node.toNat (by omega) (dirC _ hc)).2
      have hn1 : namedT t ((e.node.toNat : Nat) : Int) ≤ 1 := by
        rcases hd with h0 | h1
        · exact absurd h0 (h.zero he)
        · omega
      have := named_same hn1 he he' (by omega) (by omega)
      subst this
      exact ih hp
  have hCa : C a := ⟨.refl, .refl⟩
  exact no a (h.dir a ha (dirC a hCa)).1 hCa
/-- No directory is inside what is in it. -/
theorem MayF.anti {t : Tre} (h : MayF t) {a b : Nat} (hab : Reach t a b) (hba : Reach t b a) : a = b := by
  rcases reach_first hab with e | ⟨e, he, hr⟩
  · exact e
  · exact (h.nocycle he (hr.trans hba)).elim
theorem MayF.met {t : Tre} (h : MayF t) {c : Nat} (hc : c < 12) : metB t 0 c = (decide (0 < namedT t c) || decide (c = 0)) := by
  rw [Bool.eq_iff_iff, metB_iff, Bool.or_eq_true, decide_eq_true_eq, decide_eq_true_eq]
  constructor
  · intro hr
    cases hr with
    | refl => exact .inr rfl
    | step _ hx => have := h.ent hx; exact .inl (named_one hx (by omega))
  · rintro (hn | rfl)
    · obtain ⟨e, he, hd⟩ := List.countP_pos_iff.1 hn
      obtain ⟨n, hn, hen⟩ := List.mem_flatMap.1 he
      obtain ⟨j, hj, rfl⟩ := List.getElem_of_mem hn
      have hx : e ∈ entsT t j := by unfold entsT; rw [getD_at hj]; exact hen
      have hq := h.ent hx
      have := Reach.step (h.dir j hq.1 hq.2.1).1 hx
      rwa [of_decide_eq_true hd, Int.toNat_natCast] at this
    · exact .refl
theorem insideT_iff {t : Tre} (hM : mayT t = true) {a b : Nat} (ha : a < 12) (hb : b < 12) : insideT t a b = (decide (kindT t a = 2) && metB t a b) := by
  unfold insideT
  rw [hM, decide_eq_true (show (0 : Int) ≤ a by omega), decide_eq_true (show (a : Int) < 12 by omega), decide_eq_true (show (0 : Int) ≤ b by omega), decide_eq_true (show (b : Int) < 12 by omega)]
  simp
end Go.Proofs.YtdlgpolngnkiaaaGreatDoor

/- The paths of all names: plain. -/
namespace Go.Proofs.YtdlgpolngnkiaaaGreatDoor
open Go
def say (l : List ByteArray) : List ByteArray := if joinP1 l = ba [] then [] else [joinP1 l]
/-- The paths of all names below a node, at most so deep. -/
def walkG (t : Tre) : Nat → Nat → List ByteArray → List ByteArray
  | 0, _, _ => []
  | f + 1, i, ahead => (entsT t i).flatMap fun x => say (ahead ++ [x.name]) ++ walkG t f x.node.toNat (ahead ++ [x.name])
noncomputable def walkT (t : Tre) : List ByteArray := if mayT t then walkG t 12 0 [] else []
/-- No way down from a node is so long. -/
def Hgt (t : Tre) : Nat → Nat → Prop
  | 0, _ => False
  | f + 1, i => ∀ e ∈ entsT t i, Hgt t f e.node.toNat
noncomputable def below (t : Tre) (i : Nat) : List Nat := (List.range 12).filter fun j => metB t i j
theorem filter_lt {p q : Nat → Bool} : ∀ {l : List Nat} {a : Nat}, (∀ x, p x = true → q x = true) → a ∈ l → q a = true → p a = false → (l.filter p).length < (l.filter q).length
  | x :: l, a, hpq, ha, hq, hp => by
    have hle : (l.filter p).length ≤ (l.filter q).length := by
      rw [← List.countP_eq_length_filter, ← List.countP_eq_length_filter]
      exact List.countP_mono_left fun x _ h => hpq x h
    rcases List.mem_cons.1 ha with rfl | ha
    · rw [List.filter_cons_of_neg (by rw [hp]; decide), List.filter_cons_of_pos hq, List.length_cons]; omega
    · have := filter_lt hpq ha hq hp
      by_cases hx : p x = true
      · rw [List.filter_cons_of_pos hx, List.filter_cons_of_pos (hpq x hx)]; simpa using this
      · rw [List.filter_cons_of_neg hx]
        by_cases hx2 : q x = true
        · rw [List.filter_cons_of_pos hx2, List.length_cons]; omega
        · rw [List.filter_cons_of_neg hx2]; exact this
theorem below_lt {t : Tre} (h : MayF t) {i : Nat} {e : Ent} (he : e ∈ entsT t i) : (below t e.node.toNat).length < (below t i).length := by
  refine filter_lt (a := i) (fun x hx => metB_iff.2 ((Reach.step .refl he).trans (metB_iff.1 hx))) (by rw [List.mem_range]; exact (h.ent he).1) (metB_iff.2 .refl) ?_
  cases hb : metB t e.node.toNat i with
  | false => rfl
  | true => exact (h.nocycle he (metB_iff.1 hb)).elim
theorem hgt_of {t : Tre} (h : MayF t) : ∀ {f i : Nat}, i < 12 → (below t i).length ≤ f → Hgt t f i
  | 0, i, hi, hl => by
    exfalso
    have : i ∈ below t i := List.mem_filter.2 ⟨List.mem_range.2 hi, metB_iff.2 .refl⟩
    have : below t i = [] := List.eq_nil_of_length_eq_zero (by omega)
    simp_all
  | f + 1, i, hi, hl => fun e he => by
    have hq := h.ent he
    have := below_lt h he
    exact hgt_of h (by omega) (by omega)
theorem MayF.hgt {t : Tre} (h : MayF t) : Hgt t 12 0 := hgt_of h (by omega) (by
  have := List.length_filter_le (fun j => metB t 0 j) (List.range 12)
  simpa [below] using this)
def wmax : Nat → Nat
  | 0 => 0
  | f + 1 => 10 * (1 + wmax f)
theorem wmax_le : ∀ f, f ≤ 11 → wmax f ≤ 111111111110 := by decide
theorem say_len (l : List ByteArray) : (say l).length ≤ 1 := by unfold say; split <;> simp
theorem flatMap_le {α β : Type} {g : α → List β} {m : Nat} : ∀ {l : List α}, (∀ x ∈ l, (g x).length ≤ m) → (l.flatMap g).length ≤ l.length * m
  | [], _ => by simp
  | x :: l, h => by
    have h1 := flatMap_le (g := g) (l := l) fun y hy => h y (by simp [hy])
    have h2 := h x (by simp)
    rw [List.flatMap_cons, List.length_append, List.length_cons, Nat.add_mul]; omega
theorem walkG_len {t : Tre} (h : ∀ i, (entsT t i).length ≤ 10) : ∀ (f i : Nat) (ahead : List ByteArray), (walkG t f i ahead).length ≤ wmax f
  | 0, _, _ => by simp [walkG]
  | f + 1, i, ahead => by
    unfold walkG wmax
    have h1 := flatMap_le (g := fun x : Ent => say (ahead ++ [x.name]) ++ walkG t f x.node.toNat (ahead ++ [x.name])) (l := entsT t i) (m := 1 + wmax f) fun x _ => by
      have a := say_len (ahead ++ [x.name])
      have b := walkG_len h f x.node.toNat (ahead ++ [x.name])
      rw [List.length_append]; omega
    have h2 := Nat.mul_le_mul_right (1 + wmax f) (h i)
    omega
theorem MayF.ents_len {t : Tre} (h : MayF t) (i : Nat) : (entsT t i).length ≤ 10 := by
  by_cases hi : i < 12
  · exact mayL_len (mayN_ents (h.at hi))
  · unfold entsT
    rw [List.getD_eq_getElem?_getD, List.getElem?_eq_none (by rw [h.len]; omega)]
    exact Nat.zero_le _
/-- What is told depends on the entries alone. -/
theorem walkG_congr {t u : Tre} (h : ∀ i, entsT t i = entsT u i) : ∀ (f i : Nat) (ahead : List ByteArray), walkG t f i ahead = walkG u f i ahead
  | 0, _, _ => rfl
  | f + 1, i, ahead => by
    unfold walkG
    rw [h i]
    congr 1
    funext x
    rw [walkG_congr h f]
end Go.Proofs.YtdlgpolngnkiaaaGreatDoor

/- Each path that is told is found, and no other: plain. -/
namespace Go.Proofs.YtdlgpolngnkiaaaGreatDoor
open Go
/-! ### names of a directory -/
theorem bytesLess_trans : ∀ (a b c : List UInt8), Op.bytesLess a b = true → Op.bytesLess b c = true → Op.bytesLess a c = true
  | _, [], _, h, _ => by cases ‹List UInt8› <;> simp [Op.bytesLess] at h
  | _, _ :: _, [], _, h => by simp [Op.bytesLess] at h
  | [], _ :: _, _ :: _, _, _ => by simp [Op.bytesLess]
  | x :: a, y :: b, z :: c, h, k => by
    have ih := bytesLess_trans a b c
    simp only [Op.bytesLess, Bool.or_eq_true, decide_eq_true_eq, Bool.and_eq_true, beq_iff_eq] at h k ⊢
    rcases h with h | ⟨rfl, h⟩ <;> rcases k with k | ⟨rfl, k⟩
    · left; exact UInt8.lt_trans h k
    · left; exact h
    · left; exact k
    · right; exact ⟨rfl, ih h k⟩
theorem sLess_trans {a b c : ByteArray} (h : sLess a b = true) (k : sLess b c = true) : sLess a c = true := bytesLess_trans _ _ _ h k
theorem sLess_irr (a : ByteArray) : sLess a a = false := bytesLess_irr _
theorem mayL_less {l : List Ent} (h : mayL l = true) : ∀ (k i : Nat), i + k + 1 < l.length → sLess (l.getD i default).name (l.getD (i + k + 1) default).name = true := by
  have hst : ∀ j, j + 1 < l.length → sLess (l.getD j default).name (l.getD (j + 1) default).name = true := by
    intro j hj
    unfold mayL at h
    simp only [Bool.and_eq_true, List.all_eq_true, List.mem_range] at h
    have := h.1 (j + 1) hj
    unfold okE at this
    simp only [Bool.and_eq_true, Bool.or_eq_true, decide_eq_true_eq] at this
    rcases this.2 with h0 | h0
    · omega
    · simpa using h0
  intro k
  induction k with
  | zero => intro i hi; exact hst i hi
  | succ k ih =>
    intro i hi
    have a := ih i (by omega)
    have b := hst (i + k + 1) (by omega)
    exact sLess_trans a b
theorem mayL_pair {l : List Ent} (h : mayL l = true) : l.Pairwise fun a b => a.name ≠ b.name := by
  rw [List.pairwise_iff_getElem]
  intro i j hi hj hij e
  have := mayL_less h (j - i - 1) i (by omega)
  rw [show i + (j - i - 1) + 1 = j by omega, getD_at hi, getD_at hj, e, sLess_irr] at this
  cases this
theorem atI_mem {l : List Ent} {s : ByteArray} (h : ¬ atI l s < 0) : ∃ e ∈ l, e.name = s ∧ e.node = atI l s := by
  unfold atI at h ⊢
  cases hf : l.find? fun x => decide (x.name = s) with
  | none => rw [hf] at h; exact absurd (show (-1 : Int) < 0 by decide) h
  | some x =>
    have := List.find?_some hf
    exact ⟨x, List.mem_of_find?_eq_some hf, of_decide_eq_true this, rfl⟩
theorem atI_of {l : List Ent} (h : l.Pairwise fun a b => a.name ≠ b.name) {e : Ent} (he : e ∈ l) : atI l e.name = e.node := by
  unfold atI
  induction l with
  | nil => cases he
  | cons x l ih =>
    rw [List.find?_cons]
    rcases List.mem_cons.1 he with rfl | he
    · rw [decide_eq_true rfl]
    · have hne := (List.pairwise_cons.1 h).1 e he
      rw [decide_eq_false hne]
      exact ih (List.pairwise_cons.1 h).2 he
theorem MayF.pair {t : Tre} (h : MayF t) (i : Nat) : (entsT t i).Pairwise fun a b => a.name ≠ b.name := by
  by_cases hi : i < 12
  · exact mayL_pair (mayN_ents (h.at hi))
  · unfold entsT
    rw [List.getD_eq_getElem?_getD, List.getElem?_eq_none (by rw [h.len]; omega)]
    exact List.Pairwise.nil
theorem nil_or_snoc {α : Type} (l : List α) : l = [] ∨ ∃ m s, l = m ++ [s] := by
  rcases List.eq_nil_or_concat l with h | ⟨m, s, h⟩
  · exact .inl h
  · exact .inr ⟨m, s, by rw [h, List.concat_eq_append]⟩
/-! ### ways -/
/-- The names of all names below a node. -/
def nameG (t : Tre) : Nat → Nat → List ByteArray → List (List ByteArray)
  | 0, _, _ => []
  | f + 1, i, ahead => (entsT t i).flatMap fun x => (ahead ++ [x.name]) :: nameG t f x.node.toNat (ahead ++ [x.name])
theorem walkG_names (t : Tre) : ∀ (f i : Nat) (ahead : List ByteArray), walkG t f i ahead = (nameG t f i ahead).flatMap say
  | 0, _, _ => rfl
  | f + 1, i, ahead => by
    unfold walkG nameG
    rw [List.flatMap_assoc]
    congr 1
    funext x
    rw [List.flatMap_cons, walkG_names t f]
theorem goF_snoc (t : Tre) (s : ByteArray) : ∀ (l : List ByteArray) (i q : Nat), goF t i (l ++ [s]) = .ok q ↔ ∃ p, goF t i l = .ok p ∧ goF t p [s] = .ok q
  | [], i, q => by
    constructor
    · intro h; exact ⟨i, rfl, h⟩
    · rintro ⟨p, hp, h⟩; cases hp; exact h
  | x :: l, i, q => by
    rw [List.cons_append, goF_cons, goF_cons]
    split
    · split
      · simp
      · exact goF_snoc t s l _ q
    · simp
theorem goF_one {t : Tre} {p q : Nat} {s : ByteArray} (h : goF t p [s] = .ok q) : kindT t p = 2 ∧ ∃ e ∈ entsT t p, e.name = s ∧ e.node.toNat = q := by
  rw [goF_cons] at h
  split at h
  · rename_i hk
    split at h
    · cases h
    · rename_i h0
      cases h
      obtain ⟨e, he, h1, h2⟩ := atI_mem h0
      exact ⟨hk, e, he, h1, by rw [h2]⟩
  · cases h
theorem goF_ent {t : Tre} (h : MayF t) {p : Nat} {e : Ent} (he : e ∈ entsT t p) : goF t p [e.name] = .ok e.node.toNat := by
  have hq := h.ent he
  have ha := atI_of (h.pair p) he
  rw [goF_cons, if_pos hq.2.1, ha, if_neg (by omega)]; rfl
theorem goF_reach {t : Tre} : ∀ {l : List ByteArray} {i q : Nat}, goF t i l = .ok q → Reach t i q
  | [], i, q, h => by cases h; exact .refl
  | s :: l, i, q, h => by
    rw [goF_cons] at h
    split at h
    · split at h
      · cases h
      · rename_i h0
        obtain ⟨e, he, _, h2⟩ := atI_mem h0
        rw [← h2] at h
        exact (Reach.step .refl he).trans (goF_reach h)
    · cases h
theorem nameG_go {t : Tre} (h : MayF t) : ∀ {f i : Nat} {ahead l : List ByteArray}, l ∈ nameG t f i ahead → ∃ m q, l = ahead ++ m ∧ m ≠ [] ∧ goF t i m = .ok q
  | 0, _, _, _, hl => by cases hl
  | f + 1, i, ahead, l, hl => by
    obtain ⟨x, hx, hl⟩ := List.mem_flatMap.1 hl
    have h1 := goF_ent h hx
    rcases List.mem_cons.1 hl with rfl | hl
    · exact ⟨[x.name], _, rfl, by simp, h1⟩
    · obtain ⟨m, q, rfl, hm, hq⟩ := nameG_go h hl
      refine ⟨x.name :: m, q, by simp, by simp, ?_⟩
      have hk := (h.ent hx).2.1
      have ha := atI_of (h.pair i) hx
      have h9 := h.ent hx
      rw [goF_cons, if_pos hk, ha, if_neg (by omega)]; exact hq
theorem go_nameG {t : Tre} : ∀ {f i : Nat} {ahead m : List ByteArray} {q : Nat}, Hgt t f i → m ≠ [] → goF t i m = .ok q → ahead ++ m ∈ nameG t f i ahead
  | 0, _, _, _, _, hh, _, _ => hh.elim
  | f + 1, i, ahead, [], q, _, hm, _ => absurd rfl hm
  | f + 1, i, ahead, s :: m, q, hh, _, hq => by
    rw [goF_cons] at hq
    split at hq
    · split at hq
      · cases hq
      · rename_i h0
        obtain ⟨e, he, h1, h2⟩ := atI_mem h0
        unfold nameG
        refine List.mem_flatMap.2 ⟨e, he, ?_⟩
        rw [← h2] at hq
        rw [← h1]
        by_cases hm : m = []
        · subst hm; exact List.mem_cons_self
        · refine List.mem_cons_of_mem _ ?_
          have := go_nameG (ahead := ahead ++ [e.name]) (hh e he) hm hq
          simpa using this
    · cases hq
/-- What is told later is no beginning of it. -/
theorem nameG_order {t : Tre} (h : MayF t) : ∀ (f i : Nat) (ahead : List ByteArray), (nameG t f i ahead).Pairwise fun a b => ¬ ∃ m, a = b ++ m
  | 0, _, _ => List.Pairwise.nil
  | f + 1, i, ahead => by
    unfold nameG
    rw [List.pairwise_flatMap]
    have long : ∀ {x : Ent} {a : List ByteArray}, a ∈ (ahead ++ [x.name]) :: nameG t f x.node.toNat (ahead ++ [x.name]) → ∃ m, a = ahead ++ (x.name :: m) := by
      intro x a ha
      rcases List.mem_cons.1 ha with rfl | ha
      · exact ⟨[], by simp⟩
      · obtain ⟨m, q, rfl, _⟩ := nameG_go h ha
        exact ⟨m, by simp⟩
    refine ⟨fun x hx => List.pairwise_cons.2 ⟨fun b hb => ?_, nameG_order h f _ _⟩, ?_⟩
    · rintro ⟨m, hm⟩
      obtain ⟨n, q, rfl, hn, _⟩ := nameG_go h hb
      have := congrArg List.length hm
      simp only [List.length_append] at this
      exact hn (List.eq_nil_of_length_eq_zero (by omega))
    · refine (h.pair i).imp fun {x y} hne a ha b hb => ?_
      rintro ⟨m, hm⟩
      obtain ⟨ma, rfl⟩ := long ha
      obtain ⟨mb, rfl⟩ := long hb
      rw [List.append_assoc, List.append_cancel_left_eq, List.cons_append, List.cons.injEq] at hm
      exact hne hm.1
/-! ### how many -/
theorem countP_two {α : Type} {p : α → Bool} : ∀ {l : List α} {a b : α}, a ∈ l → b ∈ l → a ≠ b → p a = true → p b = true → 2 ≤ l.countP p
  | x :: l, a, b, ha, hb, hne, pa, pb => by
    rw [List.countP_cons]
    by_cases h1 : a = x
    · subst h1
      have hb2 : b ∈ l := by
        rcases List.mem_cons.1 hb with h | h
        · exact absurd h.symm hne
        · exact h
      have : 0 < l.countP p := List.countP_pos_iff.2 ⟨b, hb2, pb⟩
      rw [if_pos pa]; omega
    · have ha2 : a ∈ l := by
        rcases List.mem_cons.1 ha with h | h
        · exact absurd h h1
        · exact h
      by_cases h2 : b = x
      · subst h2
        have : 0 < l.countP p := List.countP_pos_iff.2 ⟨a, ha2, pa⟩
        rw [if_pos pb]; omega
      · have hb2 : b ∈ l := by
          rcases List.mem_cons.1 hb with h | h
          · exact absurd h h2
          · exact h
        have := countP_two ha2 hb2 hne pa pb
        omega
theorem named_ent {t : Tre} {x : Int} (h : namedT t x ≤ 1) {i : Nat} {e e' : Ent} (he : e ∈ entsT t i) (he' : e' ∈ entsT t i) (hx : e.node = x) (hx' : e'.node = x) : e = e' := by
  apply Classical.byContradiction
  intro hne
  have hi : i < t.length := by
    apply Classical.byContradiction
    intro hi
    unfold entsT at he
    rw [List.getD_eq_getElem?_getD, List.getElem?_eq_none (by omega)] at he
    cases he
  have hm : ∀ {y : Ent}, y ∈ entsT t i → y ∈ allE t := fun hy => List.mem_flatMap.2 ⟨t.getD i default, getD_mem hi, hy⟩
  have := countP_two (p := fun y : Ent => decide (y.node = x)) (hm he) (hm he') hne (decide_eq_true hx) (decide_eq_true hx')
  have h2 : (allE t).countP (fun y : Ent => decide (y.node = x)) = namedT t x := rfl
  omega
/-- One way leads to a directory. -/
theorem way_one {t : Tre} (h : MayF t) : ∀ (n : Nat) {l l' : List ByteArray} {d : Nat}, l.length = n → goF t 0 l = .ok d → goF t 0 l' = .ok d → kindT t d = 2 → l = l'
  | n, l, l', d, hn, hl, hl', hk => by
    have z : ∀ {m : List ByteArray} {s : ByteArray}, goF t 0 (m ++ [s]) ≠ .ok 0 := by
      intro m s hz
      obtain ⟨p, _, h1⟩ := (goF_snoc t s m 0 0).1 hz
      obtain ⟨_, e, he, _, h0⟩ := goF_one h1
      exact h.zero he h0
    rcases nil_or_snoc l with rfl | ⟨m, s, rfl⟩
    · cases hl
      rcases nil_or_snoc l' with rfl | ⟨m', s', rfl⟩
      · rfl
      · exact absurd hl' z
    · rcases nil_or_snoc l' with rfl | ⟨m', s', rfl⟩
      · cases hl'; exact absurd hl z
      · obtain ⟨p, hp, h1⟩ := (goF_snoc t s m 0 d).1 hl
        obtain ⟨p', hp', h1'⟩ := (goF_snoc t s' m' 0 d).1 hl'
        obtain ⟨hkp, e, he, hs, hd⟩ := goF_one h1
        obtain ⟨_, e', he', hs', hd'⟩ := goF_one h1'
        have hq := h.ent he
        have hq' := h.ent he'
        have hnm : namedT t (d : Int) ≤ 1 := by
          rcases (h.dir d (by omega) hk).2 with h0 | h1
          · omega
          · omega
        have hpp := named_same hnm he he' (by omega) (by omega)
        subst hpp
        have hee := named_ent hnm he he' (by omega) (by omega)
        subst hee
        have hm : m.length < n := by simp at hn; omega
        have := way_one h m.length (l := m) (l' := m') rfl hp hp' hkp
        rw [this, ← hs, ← hs']
termination_by n => n
theorem nodup_le {α : Type} [DecidableEq α] : ∀ {l m : List α}, l.Nodup → (∀ x ∈ l, x ∈ m) → l.length ≤ m.length
  | [], _, _, _ => Nat.zero_le _
  | x :: l, m, hn, hs => by
    have hx := hs x (by simp)
    have hn' := List.nodup_cons.1 hn
    have ih := nodup_le (l := l) (m := m.erase x) hn'.2 fun y hy => (List.mem_erase_of_ne (fun e => hn'.1 (by rw [← e]; exact hy))).2 (hs y (by simp [hy]))
    have hp := List.length_pos_of_mem hx
    rw [List.length_erase_of_mem hx] at ih
    rw [List.length_cons]; omega
def dirOf (t : Tre) (l : List ByteArray) : Nat × ByteArray := ((match goF t 0 l.dropLast with
  | .ok p => p
  | .error _ => 0), l.getLastD (ba []))
theorem names_le {t : Tre} (h : MayF t) : (nameG t 12 0 []).length ≤ 120 := by
  have hpl : ((List.range 12).flatMap fun d => (entsT t d).map fun e => (d, e.name)).length ≤ 12 * 10 := by
    have := flatMap_le (g := fun d => (entsT t d).map fun e => (d, e.name)) (l := List.range 12) (m := 10) fun d _ => by rw [List.length_map]; exact h.ents_len d
    simpa using this
  have look : ∀ {l : List ByteArray}, l ∈ nameG t 12 0 [] → ∃ m p e, l = m ++ [e.name] ∧ goF t 0 m = .ok p ∧ kindT t p = 2 ∧ e ∈ entsT t p ∧ dirOf t l = (p, e.name) := by
    intro l hl
    obtain ⟨m, q, hlm, hm, hq⟩ := nameG_go h hl
    rw [List.nil_append] at hlm
    subst hlm
    rcases nil_or_snoc l with rfl | ⟨m', s, rfl⟩
    · exact absurd rfl hm
    · obtain ⟨p, hp, h1⟩ := (goF_snoc t s m' 0 q).1 hq
      obtain ⟨hk, e, he, rfl, _⟩ := goF_one h1
      refine ⟨m', p, e, rfl, hp, hk, he, ?_⟩
      unfold dirOf
      simp [hp]
  have hle := nodup_le (l := (nameG t 12 0 []).map (dirOf t)) (m := (List.range 12).flatMap fun d => (entsT t d).map fun e => (d, e.name)) ?_ ?_
  · rw [List.length_map] at hle; omega
  · rw [List.Nodup, List.pairwise_map]
    refine (nameG_order h 12 0 []).imp_of_mem fun {a b} ha hb hne e => hne ⟨[], ?_⟩
    obtain ⟨m, p, x, rfl, hp, hk, _, h1⟩ := look ha
    obtain ⟨m', p', x', rfl, hp', _, _, h1'⟩ := look hb
    rw [h1, h1', Prod.mk.injEq] at e
    obtain ⟨rfl, e2⟩ := e
    rw [way_one h m.length rfl hp hp' hk, e2, List.append_nil]
  · intro x hx
    obtain ⟨l, hl, rfl⟩ := List.mem_map.1 hx
    obtain ⟨m, p, e, _, _, _, he, h1⟩ := look hl
    rw [h1]
    exact List.mem_flatMap.2 ⟨p, List.mem_range.2 (h.ent he).1, List.mem_map.2 ⟨e, he, rfl⟩⟩
/-! ### texts -/
theorem mem_say {l : List ByteArray} {s : ByteArray} : s ∈ say l ↔ joinP1 l = s ∧ s ≠ ba [] := by
  unfold say
  split
  · rename_i h
    constructor
    · intro hs; cases hs
    · rintro ⟨h1, h2⟩; exact absurd (h1.symm.trans h) h2
  · rename_i h
    rw [List.mem_singleton]
    constructor
    · rintro rfl; exact ⟨rfl, h⟩
    · rintro ⟨h1, _⟩; exact h1.symm
theorem joinP1_split {l : List ByteArray} {s : ByteArray} (h : joinP1 l = s) (hs : s ≠ ba []) : splitP s = some l := by
  unfold joinP1 at h
  split at h
  · rename_i h2; rw [← h]; exact h2
  · exact absurd h.symm hs
theorem split_ne {s : ByteArray} {l : List ByteArray} (h : splitP s = some l) : s ≠ ba [] := by
  intro e
  subst e
  have : splitP (ba []) = none := rfl
  rw [this] at h; cases h
theorem split_join1 {s : ByteArray} {l : List ByteArray} (h : splitP s = some l) : joinP1 l = s := joinP_of_split h
theorem join_drop_le : ∀ (l : List ByteArray) (s : ByteArray), (Lib.join (l.map bl) [47]).length ≤ (Lib.join ((l ++ [s]).map bl) [47]).length
  | [], s => by simp [Lib.join_nil]
  | x :: l, s => by
    rw [joinS_snoc (x :: l) s (by simp), List.length_append]; omega
theorem split_drop {s n : ByteArray} {l : List ByteArray} (h : splitP s = some (l ++ [n])) : splitP (joinP1 l) = some l := by
  obtain ⟨h1, h2, h3⟩ := splitP_some h
  have hl : (Lib.join ((l ++ [n]).map bl) [47]).length ≤ 59 := by
    have := congrArg List.length h3
    rw [bl_len, List.length_cons] at this
    omega
  have hd := join_drop_le l n
  have hall : l.all mayB = true := by
    rw [List.all_append, Bool.and_eq_true] at h2
    exact h2.1
  have := splitP_join hall (by omega)
  unfold joinP1
  rw [if_pos this]; exact this
theorem last_of {s n : ByteArray} {l : List ByteArray} (h : splitP s = some (l ++ [n])) : lastP s = (joinP1 l, n, 0) := by
  unfold lastP
  rw [h]
  simp
theorem find_of {t : Tre} (hM : mayT t = true) {s : ByteArray} {l : List ByteArray} (h : splitP s = some l) : findT t s = goF t 0 l := by
  unfold findT
  rw [if_pos hM, h]
/-- A text that goes on behind another one with a slash. -/
theorem split_pre {s x : ByteArray} {l m : List ByteArray} {r : List UInt8} (hs : splitP s = some l) (hx : splitP x = some m) (hl : l ≠ []) (h : bl x = bl s ++ 47 :: r) : ∃ k, m = l ++ k := by
  obtain ⟨_, h2, h3⟩ := splitP_some hs
  have hsp : splitP x = some ((splitS (Lib.join (l.map bl) [47] ++ 47 :: r)).map ba) ∨ splitP x = none := by
    unfold splitP
    rw [h, h3]
    simp only [List.cons_append]
    split
    · split
      · rename_i h0
        exact absurd h0 (by simp)
      · split
        · exact .inl rfl
        · exact .inr rfl
    · exact .inr rfl
  rcases hsp with hsp | hsp
  · rw [hx] at hsp
    cases hsp
    have hno : ∀ y ∈ l.map bl, 47 ∉ y := fun y hy => by
      obtain ⟨z, hz, rfl⟩ := List.mem_map.1 hy
      exact mayB_no (List.all_eq_true.1 h2 z hz)
    rw [splitS_app, split_join _ (by simpa using hl) hno, List.map_append, map_ba_bl]
    exact ⟨_, rfl⟩
  · rw [hx] at hsp; cases hsp
/-! ### what is told -/
/-- A path that is told. -/
structure Told (t : Tre) (s : ByteArray) (d q : Nat) (n : ByteArray) : Prop where
  find : findT t s = .ok q
  parent : parentT t s = .ok (d, n)
  d12 : d < 12
  q12 : q < 12
  at_ : atI (entsT t d) n = q
  inside : insideT t (d : Int) (q : Int) = true
theorem walkT_eq {t : Tre} (hM : mayT t = true) : walkT t = (nameG t 12 0 []).flatMap say := by
  unfold walkT
  rw [if_pos hM, walkG_names]
theorem walkT_mem {t : Tre} (hM : mayT t = true) {s : ByteArray} : s ∈ walkT t ↔ ∃ l q, splitP s = some l ∧ l ≠ [] ∧ goF t 0 l = .ok q := by
  have hF := mayF hM
  rw [walkT_eq hM, List.mem_flatMap]
  constructor
  · rintro ⟨l, hl, hs⟩
    obtain ⟨h1, h2⟩ := mem_say.1 hs
    obtain ⟨m, q, hlm, hm, hq⟩ := nameG_go hF hl
    rw [List.nil_append] at hlm
    subst hlm
    exact ⟨l, q, joinP1_split h1 h2, hm, hq⟩
  · rintro ⟨l, q, hs, hm, hq⟩
    have := go_nameG (ahead := []) hF.hgt hm hq
    exact ⟨l, by simpa using this, mem_say.2 ⟨split_join1 hs, split_ne hs⟩⟩
theorem told_of {t : Tre} (hM : mayT t = true) {s : ByteArray} (hs : s ∈ walkT t) : ∃ d q n, Told t s d q n := by
  have hF := mayF hM
  obtain ⟨l, q, hsp, hm, hq⟩ := (walkT_mem hM).1 hs
  rcases nil_or_snoc l with rfl | ⟨m, n, rfl⟩
  · exact absurd rfl hm
  obtain ⟨p, hp, h1⟩ := (goF_snoc t n m 0 q).1 hq
  obtain ⟨hk, e, he, rfl, rfl⟩ := goF_one h1
  have hx := hF.ent he
  refine ⟨p, e.node.toNat, e.name, by rw [find_of hM hsp, hq], ?_, hx.1, by omega, by rw [atI_of (hF.pair p) he]; omega, ?_⟩
  · unfold parentT
    rw [if_pos hM, last_of hsp, if_pos rfl, find_of hM (split_drop hsp), hp]
    simp only [if_pos hk]
  · rw [insideT_iff hM hx.1 (by omega), decide_eq_true hk, metB_iff.2 (.step .refl he)]; rfl
theorem walkT_len {t : Tre} (hM : mayT t = true) : (walkT t).length ≤ 120 := by
  have := names_le (mayF hM)
  rw [walkT_eq hM]
  have h2 := flatMap_le (g := say) (l := nameG t 12 0 []) (m := 1) fun l _ => say_len l
  omega
/-- No path is told twice; none behind one that goes on from it. -/
theorem walkT_order {t : Tre} (hM : mayT t = true) : (walkT t).Pairwise fun x s => x ≠ s ∧ ∀ r, bl x ≠ bl s ++ 47 :: r := by
  have hF := mayF hM
  rw [walkT_eq hM, List.pairwise_flatMap]
  refine ⟨fun l _ => ?_, (nameG_order hF 12 0 []).imp_of_mem fun {a b} ha hb hne x hx s hs => ?_⟩
  · unfold say
    split
    · exact List.Pairwise.nil
    · exact List.pairwise_singleton _ _
  · obtain ⟨h1, h2⟩ := mem_say.1 hx
    obtain ⟨k1, k2⟩ := mem_say.1 hs
    have hx' := joinP1_split h1 h2
    have hs' := joinP1_split k1 k2
    have hbne : b ≠ [] := by
      obtain ⟨m, q, hlm, hm, _⟩ := nameG_go hF hb
      rw [List.nil_append] at hlm
      rw [hlm]; exact hm
    refine ⟨fun e => hne ⟨[], ?_⟩, fun r hr => hne (split_pre hs' hx' hbne hr)⟩
    rw [e, hs'] at hx'
    cases hx'; simp
theorem find_iff {t : Tre} (hM : mayT t = true) (path : ByteArray) : (∃ q, findT t path = .ok q) ↔ path ∈ walkT t ∨ path = ba [47] := by
  rw [walkT_mem hM]
  constructor
  · rintro ⟨q, hq⟩
    unfold findT at hq
    rw [if_pos hM] at hq
    cases hsp : splitP path with
    | none => rw [hsp] at hq; cases hq
    | some l =>
      rw [hsp] at hq
      by_cases hl : l = []
      · right
        subst hl
        have := (splitP_some hsp).2.2
        exact bl_inj (by rw [this]; rfl)
      · left; exact ⟨l, q, rfl, hl, hq⟩
  · rintro (⟨l, q, hsp, _, hq⟩ | rfl)
    · exact ⟨q, by rw [find_of hM hsp, hq]⟩
    · exact ⟨0, by rw [find_of hM split_top]; rfl⟩
end Go.Proofs.YtdlgpolngnkiaaaGreatDoor

/- Elements of rows of one's own that are set; rows that grow by an element. -/
namespace Go.Proofs.YtdlgpolngnkiaaaGreatDoor
open Go
theorem repL.set {α : Type} [Rep α] {W : View} {d : α} {ds : List Value} (hd : Rep.rep W ds d) : ∀ {cs : List Value} {l : List α} {i : Nat}, repL W cs l → i < l.length → repL W (putL cs (i * Rep.sz α) ds) (l.set i d)
  | _, [], i, _, hi => absurd hi (by simp)
  | _, x :: l, 0, ⟨vs, us, e, h1, h2⟩, _ => by
    have hv := Rep.len h1; have hdl := Rep.len hd
    refine ⟨ds, us, ?_, hd, h2⟩
    rw [Nat.zero_mul, putL_eq _ _ _ (by rw [e, List.length_append]; omega), e, List.take_zero, List.nil_append, Nat.zero_add, List.drop_append_of_le_length (by omega), List.drop_of_length_le (by omega), List.nil_append]
  | _, x :: l, i + 1, ⟨vs, us, e, h1, h2⟩, hi => by
    have hv := Rep.len h1; have hdl := Rep.len hd; have hul := h2.len
    have hi' : i < l.length := by simpa using hi
    have hle := Nat.mul_le_mul_right (Rep.sz α) (show i + 1 ≤ l.length from hi')
    rw [Nat.add_mul] at hle
    refine ⟨vs, putL us (i * Rep.sz α) ds, ?_, h1, repL.set hd h2 hi'⟩
    rw [putL_eq _ _ _ (by rw [e, List.length_append, Nat.add_mul]; omega), putL_eq _ _ _ (by omega), e, Nat.add_mul]
    rw [show i * Rep.sz α + 1 * Rep.sz α = vs.length + i * Rep.sz α by omega, List.take_append, List.drop_append]
    rw [List.take_of_length_le (show vs.length ≤ vs.length + i * Rep.sz α by omega), List.drop_of_length_le (show vs.length ≤ vs.length + i * Rep.sz α + ds.length by omega)]
    rw [show vs.length + i * Rep.sz α - vs.length = i * Rep.sz α by omega, show vs.length + i * Rep.sz α + ds.length - vs.length = i * Rep.sz α + ds.length by omega]
    simp [List.append_assoc]
theorem putL_take : ∀ (vs cs : List Value) (off m : Nat), (putL cs off vs).take m = putL (cs.take m) off vs
  | [], _, _, _ => rfl
  | v :: vs, cs, off, m => by rw [putL, putL, putL_take vs, List.take_set]
/-- Cells of a row of one's own may be set; all else is as it was. -/
theorem Buf.set {V : View} {x : Sl} {e : TypeId} {sz : Nat} {cs vs : List Value} (h : Buf V x e sz cs) {off : Nat} (hk : off + vs.length ≤ x.n * sz) (hv : 0 < vs.length) {ad : Addr} (ha : x.a = some ad) :
    canSet V (ad.add off) vs.length ∧ Buf (V.sets (ad.add off) vs) x e sz (putL cs off vs) ∧ (V.minus x).Le ((V.sets (ad.add off) vs).minus x) := by
  rcases h.own with ⟨h1, _⟩ | ⟨r, all, h1, h2, h3, h4⟩
  · rw [h1] at ha; cases ha
  · rw [h1] at ha; cases ha
    have hle := Nat.mul_le_mul_right sz h.le
    have e0 : (⟨r, 0, none⟩ : Addr).add off = ⟨r, off, none⟩ := by rw [addr0_add]; simp
    have hlen := h.len
    rw [e0, sets_see h2]
    refine ⟨canSet_of h2 (by omega), ⟨?_, h.le, h.lim, .inr ⟨r, _, h1, View.see_put_same _ _ _, ?_, ?_⟩⟩, ?_⟩
    · rw [putL_eq _ _ _ (by omega)]; simp; omega
    · rw [putL_eq _ _ _ (by omega)]; simp; omega
    · rw [putL_take, h4]
    · unfold View.minus; rw [h1]; exact hide_le_put_hide r _
/-- Element i of a row of one's own, set. -/
theorem Buf.setE {α : Type} [Rep α] {V : View} {x : Sl} {e : TypeId} {cs vs : List Value} {l : List α} {d : α} (h : Buf V x e (Rep.sz α) cs) (hr : repL (V.minus x) cs l) (hd : Rep.rep (V.minus x) vs d) {i : Nat} (hi : i < l.length) :
    ∃ ad, x.a = some ad ∧ canSet V (ad.add (i * Rep.sz α)) vs.length ∧ Buf (V.sets (ad.add (i * Rep.sz α)) vs) x e (Rep.sz α) (putL cs (i * Rep.sz α) vs) ∧ repL ((V.sets (ad.add (i * Rep.sz α)) vs).minus x) (putL cs (i * Rep.sz α) vs) (l.set i d) ∧ (V.minus x).Le ((V.sets (ad.add (i * Rep.sz α)) vs).minus x) := by
  have hn : x.n = l.length := Nat.eq_of_mul_eq_mul_right (Rep.pos (α := α)) (h.len.symm.trans hr.len)
  have hv := Rep.len hd
  have hle := Nat.mul_le_mul_right (Rep.sz α) (show i + 1 ≤ x.n by omega)
  rw [Nat.add_mul] at hle
  have hp := Rep.pos (α := α)
  rcases h.own with ⟨h1, h2⟩ | ⟨r, all, h1, _⟩
  · have := h.le; omega
  · obtain ⟨a, b, c⟩ := h.set (off := i * Rep.sz α) (vs := vs) (by omega) (by omega) h1
    exact ⟨_, h1, a, b, (hr.mono c).set (Rep.mono c hd) hi, c⟩
theorem putL_mid {cs vs : List Value} {off j : Nat} {v : Value} (h : ∀ j v, vs[j]? = some v → cs[off + j]? = some v) (hj : j < vs.length) (hl : off + vs.length ≤ cs.length) : putL cs off (vs.set j v) = putL cs (off + j) [v] := by
  rw [putL_eq _ _ _ (by simpa using hl)]
  show _ = cs.set (off + j) v
  apply List.ext_getElem?
  intro k
  rw [List.length_set]
  by_cases h1 : k < off
  · rw [List.append_assoc, List.getElem?_append_left (by simp; omega), List.getElem?_take, if_pos h1, List.getElem?_set_ne (by omega)]
  · by_cases h2 : k < off + vs.length
    · rw [List.append_assoc, List.getElem?_append_right (by simp; omega), List.getElem?_append_left (by simp; omega), List.length_take, Nat.min_eq_left (by omega)]
      by_cases h3 : k = off + j
      · subst h3
        rw [show off + j - off = j by omega, List.getElem?_set_self hj, List.getElem?_set_self (by omega)]
      · rw [List.getElem?_set_ne (by omega), List.getElem?_set_ne (by omega)]
        have h4 : k - off < vs.length := by omega
        have := h (k - off) _ (List.getElem?_eq_getElem h4)
        rw [show off + (k - off) = k by omega] at this
        rw [this, List.getElem?_eq_getElem h4]
    · rw [List.getElem?_append_right (by simp; omega), List.getElem?_drop, List.getElem?_set_ne (by omega)]
      congr 1
      simp; omega
/-- A cell of element i of a row of one's own, set. -/
theorem Buf.setC {α : Type} [Rep α] {V : View} {x : Sl} {e : TypeId} {cs : List Value} {l : List α} (h : Buf V x e (Rep.sz α) cs) (hr : repL (V.minus x) cs l) {i : Nat} (hi : i < l.length) :
    ∃ ad vs, x.a = some ad ∧ cellsAt V (ad.add (i * Rep.sz α)) vs ∧ Rep.rep (V.minus x) vs l[i] ∧ ∀ j v d, j < Rep.sz α → Rep.rep (V.minus x) (vs.set j v) d →
      canSet V ((ad.add (i * Rep.sz α)).add j) 1 ∧ Buf (V.sets ((ad.add (i * Rep.sz α)).add j) [v]) x e (Rep.sz α) (putL cs (i * Rep.sz α + j) [v]) ∧ repL ((V.sets ((ad.add (i * Rep.sz α)).add j) [v]).minus x) (putL cs (i * Rep.sz α + j) [v]) (l.set i d) ∧ (V.minus x).Le ((V.sets ((ad.add (i * Rep.sz α)).add j) [v]).minus x) := by
  have hn : x.n = l.length := Nat.eq_of_mul_eq_mul_right (Rep.pos (α := α)) (h.len.symm.trans hr.len)
  obtain ⟨vs, hv, hg⟩ := hr.get i hi
  have hvl := Rep.len hv
  have hle := Nat.mul_le_mul_right (Rep.sz α) (show i + 1 ≤ x.n by omega)
  rw [Nat.add_mul] at hle
  have hcl := h.len
  rcases h.own with ⟨h1, h2⟩ | ⟨r, all, h1, h2, h3, h4⟩
  · have := h.le; omega
  · refine ⟨_, vs, h1, ?_, hv, fun j v d hj hd => ?_⟩
    · rw [addr0_add]
      refine cellsAt_of_see h2 fun j v hj => ?_
      have := hg j v hj
      rw [← h4, List.getElem?_take] at this
      split at this
      · simpa using this
      · cases this
    · rw [Addr.add_add]
      obtain ⟨a, b, c⟩ := h.set (off := i * Rep.sz α + j) (vs := [v]) (by simp; omega) (by simp) h1
      refine ⟨a, b, ?_, c⟩
      rw [← putL_mid hg (by omega) (by omega)]
      exact (hr.mono c).set (Rep.mono c hd) hi
/-- An element in a new block, appended to a row of one's own. -/
theorem app0 {α : Type} [Rep α] {V V0 : View} {r : Nat} {x : Sl} {e : TypeId} {bytes : Nat} {zero : List Value} {cs vs : List Value} {l : List α} {d : α} {C : Sl → View → Prop} {ob : Obj} {te : TypeId}
    (hz : zero.length = Rep.sz α) (hb : Buf V x e (Rep.sz α) cs) (hr : repL (V.minus x) cs l) (hd : Rep.rep (V.minus x) vs d) (hle : V0.Le (V.minus x)) (hnew : V.size ≤ r) (hob : ob = .cells ⟨vs⟩ te (0, 0))
    (hm : (x.n + 1) * bytes ≤ 140737488355328) (hm2 : x.n + 1 ≤ 140737488355328)
    (hC : ∀ s V' cs', Buf V' s e (Rep.sz α) cs' → repL (V'.minus s) cs' (l ++ [d]) → V0.Le (V'.minus s) → C s V') :
    apV (V.put r ob) e (Rep.sz α) bytes zero x (.slice (some ⟨r, 0, none⟩) 1 1) C := by
  subst hob
  have hfr : V.see r = none := View.see_none_of_ge hnew
  have hvl : vs.length = Rep.sz α := Rep.len hd
  refine apV_buf hz (hb.put hfr) (src := vs) (m := 1) ⟨rfl, rowAt_new (View.see_put_same _ _ _) (by rw [Nat.one_mul]; exact hvl)⟩ (by rw [Nat.one_mul]; exact hvl) (Rep.one hd) hm hm2 fun s V' hb' _ hle' => ?_
  have h1 : (V.minus x).Le (V'.minus s) := (put_minus_le hfr).trans hle'
  exact hC s V' _ hb' ((hr.mono h1).snoc (Rep.mono h1 hd)) (hle.trans h1)
/-- An element appended to a row of one's own that stands beside another one. -/
theorem app0b {α : Type} [Rep α] {V V0 : View} {x y : Sl} {e e' : TypeId} {bytes sz' : Nat} {zero : List Value} {cs vs ds : List Value} {l : List α} {d : α} {C : Sl → View → Prop} {r : Nat}
    (hz : zero.length = Rep.sz α) (hb : Buf V x e (Rep.sz α) cs) (hy : Buf (V.minus x) y e' sz' ds) (hr : repL V0 cs l) (hd : Rep.rep V0 vs d) (hle : V0.Le ((V.minus x).minus y)) (hrow : rowAt V (some ⟨r, 0, none⟩) (1 * Rep.sz α) vs)
    (hm : (l.length + 1) * bytes ≤ 140737488355328) (hm2 : l.length + 1 ≤ 140737488355328)
    (hC : ∀ s V', Buf V' s e (Rep.sz α) (cs ++ vs) → Buf (V'.minus s) y e' sz' ds → repL V0 (cs ++ vs) (l ++ [d]) → V0.Le ((V'.minus s).minus y) → C s V') :
    apV V e (Rep.sz α) bytes zero x (.slice (some ⟨r, 0, none⟩) 1 1) C := by
  have hvl : vs.length = Rep.sz α := Rep.len hd
  have hn : x.n = l.length := Nat.eq_of_mul_eq_mul_right (Rep.pos (α := α)) (hb.len.symm.trans hr.len)
  refine apV_buf hz hb (src := vs) (m := 1) ⟨rfl, hrow⟩ (by rw [Nat.one_mul]; exact hvl) (Rep.one hd) (by rw [hn]; exact hm) (by rw [hn]; exact hm2) fun s V' hb' _ hle' => ?_
  exact hC s V' hb' (hy.mono hle') (hr.snoc hd) (hle.trans (minus_mono hle' y))
/-- A row of data copied behind a row of one's own. -/
theorem appRow {α : Type} [Rep α] {V V0 : View} {x y : Sl} {e : TypeId} {bytes : Nat} {zero : List Value} {cs : List Value} {l m : List α} {C : Sl → View → Prop}
    (hz : zero.length = Rep.sz α) (hb : Buf V x e (Rep.sz α) cs) (hr : repL (V.minus x) cs l) (hy : SlR (V.minus x) y m) (hle : V0.Le (V.minus x))
    (hm : (l.length + m.length) * bytes ≤ 140737488355328) (hm2 : l.length + m.length ≤ 140737488355328)
    (hC : ∀ s V' cs', Buf V' s e (Rep.sz α) cs' → repL (V'.minus s) cs' (l ++ m) → V0.Le (V'.minus s) → C s V') :
    apV V e (Rep.sz α) bytes zero x (.slice y.a y.n y.c) C := by
  obtain ⟨cy, hrow, hcy⟩ := hy.row
  have hyn := hy.n
  have hn : x.n = l.length := Nat.eq_of_mul_eq_mul_right (Rep.pos (α := α)) (hb.len.symm.trans hr.len)
  have hrow' : rowAt V y.a (y.n * Rep.sz α) cy := by
    cases ha : y.a with
    | none => rw [ha] at hrow; exact hrow
    | some a => rw [ha] at hrow; exact ⟨hrow.1, cellsAt_mono (View.minus_le _ _) hrow.2⟩
  refine apV_buf hz hb (src := cy) (m := y.n) ⟨rfl, hrow'⟩ (by rw [hcy.len, hyn]) hcy.one (by rw [hn, hyn]; exact hm) (by rw [hn, hyn]; exact hm2) fun s V' hb' _ hle' => ?_
  exact hC s V' _ hb' ((hr.mono hle').append (hcy.mono hle')) (hle.trans hle')
end Go.Proofs.YtdlgpolngnkiaaaGreatDoor

/- Bits of numbers: plain lemmas. -/
namespace Go.Proofs.YtdlgpolngnkiaaaGreatDoor
open Go
theorem wrapI {n : Int} (h0 : -9223372036854775808 ≤ n) (h1 : n ≤ 9223372036854775807) : IntKind.wrap .i64 n = n := by
  unfold IntKind.wrap
  simp [IntKind.signed, IntKind.bits]
  omega
theorem ofInt_nat (w n : Nat) : BitVec.ofInt w (n : Int) = BitVec.ofNat w n := by
  simp
theorem and127 {n : Nat} (h : n ≤ 9223372036854775807) : bitsI .and .i64 (n : Int) 127 = ((n % 128 : Nat) : Int) := by
  have e : bitsI .and .i64 (n : Int) 127 = IntKind.wrap .i64 ((BitVec.ofInt 64 (n : Int) &&& BitVec.ofInt 64 ((127 : Nat) : Int)).toNat) := rfl
  rw [e, ofInt_nat, ofInt_nat, BitVec.toNat_and, BitVec.toNat_ofNat, BitVec.toNat_ofNat]
  have h1 : n % 2 ^ 64 = n := Nat.mod_eq_of_lt (by omega)
  have h2 : (127 : Nat) % 2 ^ 64 = 2 ^ 7 - 1 := by decide
  rw [h1, h2, Nat.and_two_pow_sub_one_eq_mod]
  exact wrapI (by omega) (by omega)
theorem or_low {m c : Nat} (hm : m ≤ 35184372088832) (hc : c < 128) : bitsI .or .i64 ((m : Int) * 128) (c : Int) = ((m * 128 + c : Nat) : Int) := by
  have e : bitsI .or .i64 ((m : Int) * 128) (c : Int) = IntKind.wrap .i64 ((BitVec.ofInt 64 ((m * 128 : Nat) : Int) ||| BitVec.ofInt 64 (c : Int)).toNat) := rfl
  rw [e, ofInt_nat, ofInt_nat, BitVec.toNat_or, BitVec.toNat_ofNat, BitVec.toNat_ofNat]
  have h1 : (m * 128) % 2 ^ 64 = m <<< 7 := by rw [Nat.shiftLeft_eq]; exact Nat.mod_eq_of_lt (by omega)
  have h2 : c % 2 ^ 64 = c := Nat.mod_eq_of_lt (by omega)
  rw [h1, h2, ← Nat.shiftLeft_add_eq_or_of_lt (i := 7) (by omega), Nat.shiftLeft_eq]
  exact wrapI (by omega) (by omega)
theorem or128 {c : Nat} (hc : c < 128) : bitsI .or .u8 (c : Int) 128 = ((c + 128 : Nat) : Int) := by
  have : ∀ c, c < 128 → bitsI .or .u8 ((c : Nat) : Int) 128 = ((c + 128 : Nat) : Int) := by decide +kernel
  exact this c hc
end Go.Proofs.YtdlgpolngnkiaaaGreatDoor

/- Contracts of the reference's numbers and its reader. -/
namespace Go.Proofs.YtdlgpolngnkiaaaGreatDoor
open Go
/-- What the reference's 'number' answers. -/
def num3 (most : Nat) (b : List UInt8) (n k : Int) (ok : Bool) : Prop := match numP most b with
  | none => ok = false
  | some (m, r) => ok = true ∧ n = m ∧ k = (b.length - r.length : Nat)
end Go.Proofs.YtdlgpolngnkiaaaGreatDoor

/- Contracts of the reference's numbers and texts that are laid behind bytes. -/
namespace Go.Proofs.YtdlgpolngnkiaaaGreatDoor
open Go
/-- Two rows of one's own apart from one another. -/
theorem Buf.swap {V : View} {x y : Sl} {e e' : TypeId} {sz sz' : Nat} {cs ds : List Value} (h : Buf (V.minus y) x e sz cs) (k : Buf V y e' sz' ds) : Buf (V.minus x) y e' sz' ds := by
  refine ⟨k.len, k.le, k.lim, ?_⟩
  rcases k.own with k1 | ⟨r, all, k1, k2, k3⟩
  · exact .inl k1
  · refine .inr ⟨r, all, k1, ?_, k3⟩
    rcases h.own with ⟨h1, _⟩ | ⟨q, all', h1, h2, _⟩
    · unfold View.minus; rw [h1]; exact k2
    · unfold View.minus at h2 ⊢
      rw [k1] at h2
      rw [h1]
      simp only [hide_see] at h2 ⊢
      split at h2
      · cases h2
      · rename_i hne; rw [if_neg (fun e => hne e.symm)]; exact k2
theorem minus_minus_le (V : View) (x y : Sl) : ((V.minus x).minus y).Le ((V.minus y).minus x) := by
  refine ⟨by unfold View.minus; split <;> split <;> exact Nat.le_refl _, fun i o ho => ?_, by unfold View.minus; split <;> split <;> rfl⟩
  unfold View.minus at *
  cases hx : x.a <;> cases hy : y.a <;> simp only [hx, hy, hide_see] at ho ⊢
  · exact ho
  · exact ho
  · exact ho
  · split at ho
    · cases ho
    · rename_i h1
      split at ho
      · cases ho
      · rename_i h2
        rw [if_neg h2, if_neg h1]; exact ho
/-- Digits, the least first, without marks. -/
def dgL : Nat → Nat → List UInt8
  | 0, _ => []
  | f + 1, n => if n = 0 then [] else UInt8.ofNat (n % 128) :: dgL f (n / 128)
def markD (b : UInt8) : UInt8 := UInt8.ofNat (b.toNat + 128)
theorem dgL_mark : ∀ (f n : Nat), (dgL f n).map markD = loL f n
  | 0, _ => rfl
  | f + 1, n => by
    unfold dgL loL
    split
    · rfl
    · rw [List.map_cons, dgL_mark f]
      unfold markD
      rw [toNat_ofNat_lt (by omega)]
theorem dgL_lt : ∀ (f n : Nat), ∀ b ∈ dgL f n, b.toNat < 128
  | 0, _, b, h => by simp [dgL] at h
  | f + 1, n, b, h => by
    unfold dgL at h
    split at h
    · simp at h
    · rcases List.mem_cons.1 h with rfl | h
      · rw [toNat_ofNat_lt (by omega)]; omega
      · exact dgL_lt f _ b h
theorem dgL_len : ∀ (f n : Nat), (dgL f n).length ≤ f
  | 0, _ => by simp [dgL]
  | f + 1, n => by
    unfold dgL
    split
    · simp
    · have := dgL_len f (n / 128); simp; omega
theorem numL_dg (n : Nat) : numL n = (UInt8.ofNat (n % 128) :: (dgL 6 (n / 128)).map markD).reverse := by rw [dgL_mark, numL_rev]
/-- What stands at a place, counted from the end. -/
theorem numL_at {n : Nat} {i : Nat} (h : i < (UInt8.ofNat (n % 128) :: dgL 6 (n / 128)).length) :
    (numL n)[(UInt8.ofNat (n % 128) :: dgL 6 (n / 128)).length - 1 - i]? = some (if i = 0 then (UInt8.ofNat (n % 128) :: dgL 6 (n / 128))[i] else markD (UInt8.ofNat (n % 128) :: dgL 6 (n / 128))[i]) := by
  rw [numL_dg]
  simp only [List.length_cons] at h ⊢
  rw [List.getElem?_reverse (by simp; omega)]
  simp only [List.length_cons, List.length_map]
  rw [show (dgL 6 (n / 128)).length + 1 - 1 - ((dgL 6 (n / 128)).length + 1 - 1 - i) = i by omega]
  cases i with
  | zero => simp
  | succ i => simp [List.getElem?_eq_getElem (show i < (dgL 6 (n / 128)).length by omega)]
theorem clamp3_eq (n : Int) : (if (if (1099511627776 : Int) < n then (1099511627776 : Int) else n) > (0 : Int) then if (1099511627776 : Int) < n then (1099511627776 : Int) else n else (0 : Int)) = (clampN n : Int) := by
  unfold clampN
  split <;> split <;> omega
theorem row1 {V : View} {r : Nat} {v : Int} {c : UInt8} (hv : v = (c.toNat : Int)) (h : V.see r = some (.cells ⟨putL [.int .u8 0] 0 [.int .u8 v]⟩ 5 (0, 0))) : rowAt V (some ⟨r, 0, none⟩) (1 * 1) (u8s [c]) := by
  subst hv
  exact rowAt_new h rfl
end Go.Proofs.YtdlgpolngnkiaaaGreatDoor

/- Contracts of Walk. -/
namespace Go.Proofs.YtdlgpolngnkiaaaGreatDoor
open Go
structure strL (cs : List Value) (l : List ByteArray) : Prop where
  rep : ∀ {W : View}, repL W cs l
theorem repL.strs {W : View} : ∀ {cs : List Value} {l : List ByteArray}, repL W cs l → strL cs l
  | _, [], h => ⟨h⟩
  | _, _ :: _, ⟨vs, us, e, h1, h2⟩ => ⟨⟨vs, us, e, h1, (repL.strs h2).rep⟩⟩
theorem cloneS_ok {s : Sl} {l : List ByteArray} {V : View} (h : SlR V s l) (hl : l.length ≤ 1000) : CallV Tryz.prog 69 ⟨[.slice s.a s.n s.c]⟩ V fun r V' => ∃ (x : Sl) (cs : List Value), r = .slice x.a x.n x.c ∧ Buf V' x 9 1 cs ∧ repL V cs l ∧ V.Le (V'.minus x) := by
  refine f69_x ?_
  unfold f69_n
  refine br_intro (fun hnil => ?_) (fun _ r hr => ?_)
  · have ha : s.a = none := Option.isNone_iff_eq_none.1 hnil
    have hl0 : l = [] := by
      cases l with
      | nil => rfl
      | cons b l => obtain ⟨ad, vs, h1, _⟩ := h.get 0 (by simp); rw [ha] at h1; cases h1
    subst hl0
    exact ⟨⟨none, 0, 0⟩, [], rfl, Buf.nil _ _ _, rfl, View.Le.refl V⟩
  · have hfr : V.see r = none := View.see_none_of_ge hr
    refine appRow (α := ByteArray) (V0 := V) (l := []) (m := l) rfl (cs := []) ⟨rfl, Nat.le_refl _, Nat.zero_le _, .inr ⟨r, [], rfl, View.see_put_same _ _ _, rfl, rfl⟩⟩ rfl (h.mono ?_) ?_ (by simp; omega) (by simp; omega) ?_
    · exact put_le_hide hfr (View.Le.refl _)
    · exact put_le_hide hfr (View.Le.refl _)
    · intro z V' cs' hb hr' hle
      exact ⟨z, cs', rfl, hb, hr'.strs.rep, hle⟩
theorem join_len : ∀ {l : List ByteArray}, (∀ s ∈ l, s.size ≤ 8) → (Lib.join (l.map bl) [47]).length ≤ 9 * l.length
  | [], _ => by simp [Lib.join_nil]
  | [x], h => by
    have := h x (by simp)
    simp only [List.map_cons, List.map_nil, Lib.join_cons, List.length_append, bl_len, List.length_cons, List.length_nil]
    simp [Lib.joinTail]
    omega
  | x :: y :: l, h => by
    have h1 := join_len (l := y :: l) fun s hs => h s (by simp at hs ⊢; exact .inr hs)
    have h2 := h x (by simp)
    rw [List.map_cons, List.map_cons, join_cons2, List.length_append, List.length_cons, bl_len, ← List.map_cons]
    simp only [List.length_cons] at h1 ⊢
    omega
theorem joinP1_size (l : List ByteArray) : (joinP1 l).size ≤ 60 := by
  unfold joinP1
  split
  · rename_i h; exact (splitP_some h).1
  · simp [ba_size]
theorem MayF.name8 {t : Tre} (h : MayF t) {i : Nat} {e : Ent} (he : e ∈ entsT t i) : e.name.size ≤ 8 := (mayB_size (h.ent he).2.2.2.2.1).2
theorem repL_say {W : View} (l : List ByteArray) : joinP1 l ≠ ba [] → Rep.rep W [.string (joinP1 l)] (joinP1 l) := fun _ => ⟨rfl, by have := joinP1_size l; omega⟩
theorem walkG_ok {s : Sl} {t : Tre} (hF : MayF t) : ∀ (f : Nat) {i : Nat} {a : Sl} {ahead : List ByteArray} {V : View}, SlR V s t → Glo V → i < 12 → f ≤ 12 → Hgt t f i → SlR V a ahead → ahead.length + f ≤ 12 → (∀ n ∈ ahead, n.size ≤ 8) →
    CallV Tryz.prog 35 ⟨[treV s, .int .i64 i, .slice a.a a.n a.c]⟩ V fun r V' => ∃ x : Sl, r = .slice x.a x.n x.c ∧ SlR V' x (walkG t f i ahead) ∧ V.Le V'
  | 0, _, _, _, _, _, _, _, _, hh, _, _, _ => hh.elim
  | f + 1, i, a, ahead, V, h, hg, hi, hf, hh, k, hal, h8 => by
    refine f35_x ?_
    unfold f35_n
    have h12 := hF.len
    have hn := h.n
    obtain ⟨ad, sq, en, ha, hc, hN⟩ := h.nodN (i := i) (by omega)
    have hE := hN.ents
    have hen := hE.n
    have h10 := hF.ents_len i
    have hel : entsT t i = (t.getD i default).ents := rfl
    rw [← hel] at hE hen
    have hsize := wmax_le f (by omega)
    have hstep : ∀ q : Nat, q < (entsT t i).length → ((entsT t i).take (q + 1)).flatMap (fun x => say (ahead ++ [x.name]) ++ walkG t f x.node.toNat (ahead ++ [x.name])) = ((entsT t i).take q).flatMap (fun x => say (ahead ++ [x.name]) ++ walkG t f x.node.toNat (ahead ++ [x.name])) ++ say (ahead ++ [((entsT t i).getD q default).name]) ++ walkG t f ((entsT t i).getD q default).node.toNat (ahead ++ [((entsT t i).getD q default).name]) := by
      intro q hq
      rw [List.take_add_one, List.getElem?_eq_getElem hq, getD_at hq, List.flatMap_append, List.append_assoc]
      congr 1
      simp
    obtain ⟨M, hMd⟩ : ∃ M : Nat, M = 111111111111 := ⟨_, rfl⟩
    have hlen : ∀ q : Nat, q ≤ (entsT t i).length → (((entsT t i).take q).flatMap (fun x => say (ahead ++ [x.name]) ++ walkG t f x.node.toNat (ahead ++ [x.name]))).length ≤ 10 * M := by
      intro q hq
      have h1 := flatMap_le (g := fun x : Ent => say (ahead ++ [x.name]) ++ walkG t f x.node.toNat (ahead ++ [x.name])) (l := (entsT t i).take q) (m := M) fun x _ => by
        have a := say_len (ahead ++ [x.name])
        have b := walkG_len (t := t) (fun i => hF.ents_len i) f x.node.toNat (ahead ++ [x.name])
        rw [List.length_append]; omega
      have h2 : ((entsT t i).take q).length * M ≤ 10 * M := Nat.mul_le_mul_right _ (by rw [List.length_take]; omega)
      exact Nat.le_trans h1 h2
    refine fun _ => ⟨by omega, by omega, ad, ha, en, cellsAt_nth hc 4 rfl, ?_⟩
    refine loop2 (k := .sl) (l := .int .i64) (fun (o : Sl) (j : Int) V' => ∃ (q : Nat) (cs : List Value), j = q ∧ q ≤ (entsT t i).length ∧ Buf V' o 9 1 cs ∧ repL V cs (((entsT t i).take q).flatMap (fun x => say (ahead ++ [x.name]) ++ walkG t f x.node.toNat (ahead ++ [x.name]))) ∧ V.Le (V'.minus o)) (fun _ (j : Int) _ => (entsT t i).length - j.toNat) ⟨0, [], rfl, by omega, Buf.nil _ _ _, rfl, View.Le.refl _⟩ ?_
    rintro (o : Sl) (j : Int) V1 ⟨q, cs, rfl, hq, hb, hr, hV1⟩
    have q1 : V.Le V1 := hV1.trans (View.minus_le _ _)
    refine br_intro (fun hlt => ?_) (fun hge => ?_)
    · have hlt : q < (entsT t i).length := by have := of_decide_eq_true hlt; omega
      obtain ⟨ad2, ha2, hc2, hsz, hin⟩ := (hE.mono q1).entN hlt
      have hmem : (entsT t i).getD q default ∈ entsT t i := by rw [getD_at hlt]; exact List.getElem_mem _
      have hst := hstep q hlt
      have hl1 := hlen q hq
      have hl2 := hlen (q + 1) hlt
      rw [hst] at hl2
      generalize (entsT t i).getD q default = x at *
      have hxq := hF.ent hmem
      have hx8 := hF.name8 hmem
      have hn8 : ∀ n ∈ ahead ++ [x.name], n.size ≤ 8 := by
        intro n hn
        rcases List.mem_append.1 hn with hn | hn
        · exact h8 n hn
        · rw [List.mem_singleton.1 hn]; exact hx8
      have hon := hb.n_eq (α := ByteArray) hr
      refine ⟨by omega, by omega, ad2, ha2, _, _, hc2, fun _ => joinP_cut (fun l V' => SlR (V'.minus o) l.1 (ahead ++ [x.name]) ∧ Buf V' o 9 1 cs ∧ V.Le (V'.minus o)) ⟨trivial, V, q1, ?_, fun r hr1 => ?_⟩ ?_⟩
      · refine ((cloneS_ok (k.mono hV1) (by omega)).besideB hb).mono ?_
        rintro r V2 ⟨U, ⟨y, ds, rfl, hy, hyr, hyle⟩, hU, hb2⟩
        have hyl := hy.mono hU
        have hV2 := hV1.trans (hyle.trans (minus_mono hU y))
        have q2 : V.Le V2 := hV2.trans ((View.minus_le _ _).trans (View.minus_le _ _))
        refine ⟨y, rfl, q2, fun r hr1 => ?_⟩
        have hfr := View.see_none_of_ge hr1
        have hp := View.put_le (o := .cells ⟨putL [.string ⟨#[]⟩] 0 [.string x.name]⟩ 9 (0, 0)) hfr
        refine ⟨q2.trans hp, ?_⟩
        refine app0b (α := ByteArray) (V0 := V) rfl ((hyl.mono (View.minus_le _ _)).mono hp) ((hyl.swap hb2).mono (minus_mono hp y)) hyr.strs.rep (d := x.name) (vs := [.string x.name]) ⟨rfl, by omega⟩ (hV2.trans ((minus_minus_le _ _ _).trans (minus_mono (minus_mono hp y) o))) (rowAt_new (View.see_put_same _ _ _) rfl) (by omega) (by omega) ?_
        intro z V3 hz hzo hzr hzle
        have hsw := hzo.swap hz
        exact ⟨hsw.slR (W := V) hzr (hzle.trans ((minus_minus_le _ _ _).trans (View.minus_le _ _))), hzo.mono (View.minus_le _ _), hzle.trans ((minus_minus_le _ _ _).trans (View.minus_le _ _))⟩
      · have hfr := View.see_none_of_ge hr1
        have hp := View.put_le (o := .cells ⟨putL [.string ⟨#[]⟩] 0 [.string x.name]⟩ 9 (0, 0)) hfr
        have hVp := hV1.trans (minus_mono hp o)
        refine ⟨q1.trans hp, ((cloneS_ok (k.mono hVp) (by omega)).besideB (hb.mono hp)).mono ?_⟩
        rintro r2 V2 ⟨U, ⟨y, ds, rfl, hy, hyr, hyle⟩, hU, hb2⟩
        have hyl := hy.mono hU
        have hV2 := hVp.trans (hyle.trans (minus_mono hU y))
        have q2 : V.Le V2 := hV2.trans ((View.minus_le _ _).trans (View.minus_le _ _))
        have hsee : V2.see r = some (.cells ⟨putL [.string ⟨#[]⟩] 0 [.string x.name]⟩ 9 (0, 0)) := by
          have h1 : ((V1.put r (.cells ⟨putL [.string ⟨#[]⟩] 0 [.string x.name]⟩ 9 (0, 0))).minus o).see r = some (.cells ⟨putL [.string ⟨#[]⟩] 0 [.string x.name]⟩ 9 (0, 0)) := by
            rcases hb.own with ⟨h2, _⟩ | ⟨b, all, h2, h3, _⟩
            · unfold View.minus; rw [h2]; exact View.see_put_same _ _ _
            · unfold View.minus; rw [h2]
              have hne : r ≠ b := fun e => by rw [← e, hfr] at h3; cases h3
              simp only [hide_see]
              rw [if_neg hne]; exact View.see_put_same _ _ _
          exact (hyle.trans (minus_mono hU y)).trans ((View.minus_le _ _).trans (View.minus_le _ _)) |>.see _ _ h1
        refine ⟨y, rfl, q2, ?_⟩
        refine app0b (α := ByteArray) (V0 := V) rfl (hyl.mono (View.minus_le _ _)) (hyl.swap hb2) hyr.strs.rep (d := x.name) (vs := [.string x.name]) ⟨rfl, by omega⟩ (hV2.trans (minus_minus_le _ _ _)) (rowAt_new hsee rfl) (by omega) (by omega) ?_
        intro z V3 hz hzo hzr hzle
        have hsw := hzo.swap hz
        exact ⟨hsw.slR (W := V) hzr (hzle.trans ((minus_minus_le _ _ _).trans (View.minus_le _ _))), hzo.mono (View.minus_le _ _), hzle.trans ((minus_minus_le _ _ _).trans (View.minus_le _ _))⟩
      · rintro ⟨l, ⟨⟩⟩ V2 ⟨hl, hb2, hV2⟩
        simp only at hl
        dsimp only [unc]
        have hjl := join_len hn8
        rw [List.length_append, List.length_singleton] at hjl
        refine ((pathJoin_ok hl (by omega) (hg.mono hV2)).besideB hb2).mono ?_
        rintro r V3 ⟨U, ⟨rfl, hUle⟩, hU, hb3⟩
        have hV3 := hV2.trans (hUle.trans hU)
        have hl3 := hl.mono (hUle.trans hU)
        refine ⟨_, rfl, ?_⟩
        refine joinP_cut (fun z V' => ∃ ds, Buf V' z.1 9 1 ds ∧ repL V ds (((entsT t i).take q).flatMap (fun x => say (ahead ++ [x.name]) ++ walkG t f x.node.toNat (ahead ++ [x.name])) ++ say (ahead ++ [x.name])) ∧ SlR (V'.minus z.1) l (ahead ++ [x.name]) ∧ V.Le (V'.minus z.1)) (br_intro (fun hne => fun r hr1 => ?_) (fun heq => ?_)) ?_
        · have hne : joinP1 (ahead ++ [x.name]) ≠ ba [] := of_decide_eq_false (not_t hne)
          have hs : say (ahead ++ [x.name]) = [joinP1 (ahead ++ [x.name])] := by unfold say; rw [if_neg hne]
          rw [hs] at hl2 ⊢
          simp only [List.length_append, List.length_cons, List.length_nil] at hl2
          have hfr := View.see_none_of_ge hr1
          have hp := View.put_le (o := .cells ⟨putL [.string ⟨#[]⟩] 0 [.string (joinP1 (ahead ++ [x.name]))]⟩ 9 (0, 0)) hfr
          refine apV_buf rfl (hb3.mono hp) (src := [.string (joinP1 (ahead ++ [x.name]))]) (m := 1) ⟨rfl, rowAt_new (View.see_put_same _ _ _) rfl⟩ rfl rfl (by show (o.n + 1) * 16 ≤ _; omega) (by show o.n + 1 ≤ _; omega) fun z V4 hz _ hzle => ?_
          have hz2 := (minus_mono hp o).trans hzle
          exact ⟨_, hz, hr.snoc (repL_say _ hne), hl3.mono hz2, hV3.trans hz2⟩
        · have heq : joinP1 (ahead ++ [x.name]) = ba [] := of_decide_eq_true (not_f heq)
          have hs : say (ahead ++ [x.name]) = [] := by unfold say; rw [if_pos heq]
          rw [hs, List.append_nil]
          exact ⟨cs, hb3, hr, hl3, hV3⟩
        · rintro ⟨z, ⟨⟩⟩ V4 ⟨ds, hz, hzr, hzl, hV4⟩
          simp only at hz hzl hV4
          dsimp only [unc]
          have hzn := hz.n_eq (α := ByteArray) hzr
          have hrec := walkG_ok hF f (i := x.node.toNat) (h.mono hV4) (hg.mono hV4) (by omega) (by omega) (hh x hmem) hzl (by rw [List.length_append, List.length_singleton]; omega) hn8
          rw [show ((x.node.toNat : Nat) : Int) = x.node by omega] at hrec
          refine (hrec.besideB hz).mono ?_
          rintro r V5 ⟨U, ⟨y, rfl, hy, hUle⟩, hU, hz5⟩
          have hV5 := hV4.trans (hUle.trans hU)
          have hyn := hy.n
          rw [← hel] at *
          refine ⟨y, rfl, appRow (α := ByteArray) (V0 := V) rfl hz5 (hzr.mono hV5) (hy.mono hU) hV5 ?_ ?_ ?_⟩
          · simp only [List.length_append] at hl2 ⊢; omega
          · simp only [List.length_append] at hl2 ⊢; omega
          · intro w V6 es hw hwr hwle
            refine ⟨inI64 (by omega) (by omega), ⟨q + 1, es, by omega, by omega, hw, ?_, hwle⟩, by omega⟩
            rw [hst]; exact hwr.strs.rep
    · have hge : q = (entsT t i).length := by have := of_decide_eq_false hge; omega
      subst hge
      rw [List.take_length] at hr
      refine ⟨o, rfl, ?_, q1⟩
      unfold walkG
      exact hb.slR hr q1
theorem walk_ok {s : Sl} {t : Tre} {V : View} (h : SlR V s t) (hg : Glo V) : CallV Tryz.prog 12 ⟨[treV s]⟩ V fun r V' => ∃ x : Sl, r = .slice x.a x.n x.c ∧ SlR V' x (walkT t) ∧ V.Le V' := by
  refine f12_x ?_
  unfold f12_n
  refine fun _ => (mayT_ok h).mono ?_
  rintro r V1 ⟨rfl, hV1⟩
  unfold walkT
  refine ⟨_, rfl, br_intro (fun hb => ⟨⟨none, 0, 0⟩, rfl, ?_, hV1⟩) (fun hb => ?_)⟩
  · rw [if_neg (by rw [not_t hb]; decide)]; exact SlR.nil _ _ _
  have hM := not_f hb
  rw [if_pos hM]
  have hF := mayF hM
  refine (walkG_ok hF 12 (i := 0) (a := ⟨none, 0, 0⟩) (h.mono hV1) (hg.mono hV1) (by omega) (by omega) hF.hgt (SlR.nil _ _ _) (by simp) (by simp)).mono ?_
  rintro r V2 ⟨x, rfl, hx, hV2⟩
  exact ⟨x, rfl, x, rfl, hx, hV1.trans hV2⟩
end Go.Proofs.YtdlgpolngnkiaaaGreatDoor

/- What is written is read as it was. No program in this text. -/
namespace Go.Proofs.YtdlgpolngnkiaaaGreatDoor
open Go
theorem rdN_enc {n : Int} {most : Nat} {r : List UInt8} (h0 : 0 ≤ n) (h1 : n ≤ most) (hm : most ≤ 1099511627776) : rdN (some (numI n ++ r)) most = (n, some r) := by
  have hc : clampN n = n.toNat := by unfold clampN; omega
  unfold rdN numI
  simp only [hc]
  rw [numP_numL (n := n.toNat) (most := most) (by omega) (by omega) r]
  simp only
  rw [Int.toNat_of_nonneg h0]
theorem rdT_enc {b : List UInt8} {most : Nat} {r : List UInt8} (h1 : b.length ≤ most) (hm : most ≤ 1099511627776) : rdT (some (textL b ++ r)) most = (b, some r) := by
  have hp : textP most (textL b ++ r) = some (b, r) := by
    unfold textP textL numI
    rw [clampN_nat (by omega), List.append_assoc, numP_numL (by omega) h1]
    simp only
    rw [if_neg (by simp), List.take_left' rfl, List.drop_left' rfl]
  simp only [rdT, hp]
theorem rdSeqs_enc : ∀ (k : Nat) (l : List Int) (r : List UInt8), l.length = k → (∀ n ∈ l, 0 ≤ n ∧ n ≤ 1099511627776) → rdSeqs k (some (numsL l ++ r)) = (l, some r)
  | 0, l, r, hl, _ => by
    have := List.eq_nil_of_length_eq_zero hl
    subst this; rfl
  | k + 1, l, r, hl, hr => by
    rcases List.eq_nil_or_concat l with h1 | ⟨l', x, h1⟩
    · rw [h1] at hl; cases hl
    · have h1 : l = l' ++ [x] := by simpa using h1
      subst h1
      have hx := hr x (by simp)
      have ih := rdSeqs_enc k l' (numI x ++ r) (by simpa using hl) fun n hn => hr n (by simp [hn])
      rw [numsL_append, numsL_one, List.append_assoc]
      unfold rdSeqs
      rw [ih]
      simp only
      rw [rdN_enc hx.1 hx.2 (by decide)]
theorem rdEnts_enc : ∀ (k : Nat) (l : List Ent) (r : List UInt8), l.length = k → (∀ e ∈ l, e.name.size ≤ 8 ∧ 0 ≤ e.node ∧ e.node ≤ 11) → rdEnts k (some (encEs l ++ r)) = (l, some r)
  | 0, l, r, hl, _ => by
    have := List.eq_nil_of_length_eq_zero hl
    subst this; rfl
  | k + 1, l, r, hl, hr => by
    rcases List.eq_nil_or_concat l with h1 | ⟨l', x, h1⟩
    · rw [h1] at hl; cases hl
    · have h1 : l = l' ++ [x] := by simpa using h1
      subst h1
      have hx := hr x (by simp)
      have ih := rdEnts_enc k l' (textL (bl x.name) ++ (numI x.node ++ r)) (by simpa using hl) fun n hn => hr n (by simp [hn])
      rw [encEs_snoc]
      unfold encE
      rw [List.append_assoc, List.append_assoc]
      unfold rdEnts
      rw [ih]
      simp only
      rw [rdT_enc (by rw [bl_len]; exact hx.1) (by decide)]
      simp only
      rw [rdN_enc hx.2.1 (by omega) (by decide), ba_bl]
theorem rdNod_enc {n : Nod} {r : List UInt8} (h : mayN n = true) : rdNod (some (encN n ++ r)) = (n, some r) := by
  obtain ⟨kind, links, size, seqs, ents⟩ := n
  have hm := h
  unfold mayN at hm
  simp only at hm
  split at hm
  · rename_i hk
    subst hk
    simp only [Bool.and_eq_true, decide_eq_true_eq, List.length_eq_zero_iff] at hm
    obtain ⟨⟨⟨rfl, rfl⟩, rfl⟩, rfl⟩ := hm
    rw [encN_0 (by decide) (by decide)]
    unfold rdNod
    rw [rdN_enc (by decide) (by decide) (by decide)]
    rfl
  · split at hm
    · rename_i hk
      subst hk
      unfold fileB within at hm
      simp only [Bool.and_eq_true, decide_eq_true_eq, List.length_eq_zero_iff, List.all_eq_true, List.mem_range] at hm
      obtain ⟨⟨⟨⟨⟨l0, l1⟩, ⟨z0, z1⟩⟩, h5⟩, rfl⟩, hs⟩ := hm
      have hs2 : ∀ n ∈ seqs, 0 ≤ n ∧ n ≤ 1099511627776 := fun n hn => by
        obtain ⟨i, hi, rfl⟩ := List.getElem_of_mem hn
        have := hs i hi
        unfold okS within at this
        rw [getD_at0 hi] at this
        simp only [Bool.and_eq_true, decide_eq_true_eq] at this
        exact this.1
      rw [encN_1 rfl]
      simp only [List.append_assoc]
      unfold rdNod
      rw [rdN_enc (n := 1) (by decide) (by decide) (by decide)]
      simp only [if_pos]
      unfold rdFile
      rw [rdN_enc l0 (by exact l1) (by decide)]
      simp only
      rw [rdN_enc z0 (by exact z1) (by decide)]
      simp only
      rw [rdSeqs_enc 5 seqs r h5 hs2]
    · split at hm
      · rename_i h1 hk
        subst hk
        simp only [Bool.and_eq_true, decide_eq_true_eq, List.length_eq_zero_iff] at hm
        obtain ⟨⟨⟨rfl, rfl⟩, rfl⟩, hl⟩ := hm
        have h10 := mayL_len hl
        have he : ∀ e ∈ ents, e.name.size ≤ 8 ∧ 0 ≤ e.node ∧ e.node ≤ 11 := fun e he => by
          have := mayL_node hl he
          have := mayB_size this.2.2
          omega
        rw [encN_2 rfl]
        simp only [List.append_assoc]
        unfold rdNod
        rw [rdN_enc (n := 2) (by decide) (by decide) (by decide)]
        simp only
        rw [if_neg (by decide), if_pos trivial]
        unfold rdDir
        rw [rdN_enc (n := ((ents.length : Nat) : Int)) (by omega) (by omega) (by decide)]
        simp only [Int.toNat_natCast]
        rw [rdEnts_enc ents.length ents r rfl he]
      · cases hm
theorem rdTre_enc : ∀ (k : Nat) (t : Tre) (r : List UInt8), t.length = k → (∀ n ∈ t, mayN n = true) → rdTre k (some (encT t ++ r)) = (t, some r)
  | 0, t, r, hl, _ => by
    have := List.eq_nil_of_length_eq_zero hl
    subst this; rfl
  | k + 1, t, r, hl, hr => by
    rcases List.eq_nil_or_concat t with h1 | ⟨t', x, h1⟩
    · rw [h1] at hl; cases hl
    · have h1 : t = t' ++ [x] := by simpa using h1
      subst h1
      have hx := hr x (by simp)
      have ih := rdTre_enc k t' (encN x ++ r) (by simpa using hl) fun n hn => hr n (by simp [hn])
      rw [encT_snoc, List.append_assoc]
      unfold rdTre
      rw [ih]
      simp only
      rw [rdNod_enc hx]
theorem mayT_facts {t : Tre} (h : mayT t = true) : t.length = 12 ∧ (∀ n ∈ t, mayN n = true) ∧ apartL (allS t) = true := by
  unfold mayT at h
  simp only [Bool.and_eq_true, decide_eq_true_eq, List.all_eq_true] at h
  exact ⟨h.1.1.1.1, h.1.1.1.2, h.2⟩
theorem rdT_full {t : Tre} (h : mayT t = true) (r : List UInt8) : rdTre 12 (some (encT t ++ r)) = (t, some r) := rdTre_enc 12 t r (mayT_facts h).1 (mayT_facts h).2.1
/-- What is written is read as it was. -/
theorem parseT_back {t : Tre} (h : mayT t = true) : parseT (encT t) = some t := by
  have := rdT_full h []
  rw [List.append_nil] at this
  unfold parseT
  rw [this, if_pos ⟨rfl, h⟩]
/-- Two trees with the same bytes are the same. -/
theorem encT_inj {t u : Tre} (ht : mayT t = true) (hu : mayT u = true) (h : encT t = encT u) : t = u := by
  have := parseT_back ht
  rw [h, parseT_back hu] at this
  exact (Option.some.inj this).symm
theorem parseT_cut {t : Tre} {m : Nat} (h : mayT t = true) (hm : m < (encT t).length) : parseT ((encT t).take m) = none := by
  cases hp : parseT ((encT t).take m) with
  | none => rfl
  | some u =>
    exfalso
    obtain ⟨hu, he⟩ := parseT_enc hp
    have h1 := rdT_full h []
    have h2 := rdT_full hu ((encT t).drop m)
    rw [he, List.take_append_drop] at h2
    rw [List.append_nil, h2] at h1
    have h3 : (encT t).drop m = [] := Option.some.inj (Prod.mk.inj h1).2
    have := List.length_drop (i := m) (l := encT t)
    rw [h3] at this
    simp at this
    omega
theorem parseT_more {t : Tre} {c : UInt8} (h : mayT t = true) : parseT (encT t ++ [c]) = none := by
  unfold parseT
  rw [rdT_full h [c], if_neg (by rintro ⟨h, _⟩; simp at h)]
theorem encN_pos (n : Nod) : 0 < (encN n).length := by
  unfold encN numI numL
  simp only [List.length_append, List.length_cons, List.length_nil]
  omega
theorem encT_pos {t : Tre} (h : mayT t = true) : 0 < (encT t).length := by
  have h12 := (mayT_facts h).1
  cases t with
  | nil => cases h12
  | cons n t =>
    have e : encT (n :: t) = encN n ++ encT t := by simp [encT]
    have := encN_pos n
    rw [e, List.length_append]; omega
end Go.Proofs.YtdlgpolngnkiaaaGreatDoor

/- RootCut: bytes that are cut short, or have one more behind, are no tree. -/
namespace Go.Proofs.YtdlgpolngnkiaaaGreatDoor
open Go
theorem wrap_u64_nn (a : Int) : 0 ≤ IntKind.u64.wrap a := by
  unfold IntKind.wrap
  simp [IntKind.signed, IntKind.bits]
  omega
theorem wrap_u64_id {a : Int} (h0 : 0 ≤ a) (h1 : a ≤ 9223372036854775807) : IntKind.u64.wrap a = a := by
  unfold IntKind.wrap
  simp [IntKind.signed, IntKind.bits]
  omega
end Go.Proofs.YtdlgpolngnkiaaaGreatDoor

/- DirFrees, DirInside. -/
namespace Go.Proofs.YtdlgpolngnkiaaaGreatDoor
open Go
theorem freeT_range {t : Tre} : freeT t = -1 ∨ (0 ≤ freeT t ∧ freeT t < t.length) := by
  unfold freeT
  split
  · rcases idxI_range (fun n : Nod => decide (n.kind = 0)) t with ⟨h, _⟩ | ⟨h1, h2, _⟩
    · exact .inl h
    · exact .inr ⟨h1, h2⟩
  · exact .inl rfl
theorem freeT_spec {t : Tre} (h : mayT t = true) : (freeT t = -1 ∧ ∀ i, i < t.length → kindT t i ≠ 0) ∨ ∃ f : Nat, freeT t = f ∧ f < t.length ∧ kindT t f = 0 ∧ ∀ i, i < f → kindT t i ≠ 0 := by
  unfold freeT
  rw [if_pos h]
  generalize hp : (fun n : Nod => decide (n.kind = 0)) = p
  have key : ∀ l : Tre, (idxI p l = -1 ∧ ∀ i, i < l.length → (l.getD i default).kind ≠ 0) ∨ ∃ f : Nat, idxI p l = f ∧ f < l.length ∧ (l.getD f default).kind = 0 ∧ ∀ i, i < f → (l.getD i default).kind ≠ 0 := by
    intro l
    induction l with
    | nil => exact .inl ⟨rfl, fun i hi => absurd hi (by simp)⟩
    | cons n l ih =>
      unfold idxI
      by_cases hn : n.kind = 0
      · right
        refine ⟨0, ?_, by simp, by simpa using hn, fun i hi => absurd hi (by omega)⟩
        rw [if_pos (by rw [← hp]; exact decide_eq_true hn)]; rfl
      · rw [if_neg (by rw [← hp]; simpa using hn)]
        rcases ih with ⟨h1, h2⟩ | ⟨f, h1, h2, h3, h4⟩
        · left
          refine ⟨by rw [h1]; rfl, fun i hi => ?_⟩
          cases i with
          | zero => simpa using hn
          | succ i => simpa using h2 i (by simpa using hi)
        · right
          refine ⟨f + 1, by rw [h1]; simp, by simpa using h2, by simpa using h3, fun i hi => ?_⟩
          cases i with
          | zero => simpa using hn
          | succ i => simpa using h4 i (by omega)
  exact key t
/-- What a law asks first: is the tree light, may it be? -/
theorem guard_ok {s : Sl} {t : Tre} {V : View} (h : SlR V s t) : ∀ {P : Bool → View → Prop}, (∀ V' q, (q = false → mayT t = true ∧ LightT t) → (q = true → mayT t = false ∨ ¬ (t.length = 12 ∧ ∀ n ∈ t, mayN n = true)) → V.Le V' → P q V') →
    CallV Tryz.prog 5 ⟨[treV s]⟩ V fun r V' => ∃ x : Int, r = .int .i64 x ∧ br (decide (0 < x)) (P true V') (CallV Tryz.prog 11 ⟨[treV s]⟩ V' fun r V' => ∃ x : Bool, r = .bool x ∧ P (!x) V') := by
  intro P hP
  refine (light15s_ok h).mono ?_
  rintro r V1 ⟨x, rfl, x0, x1, x2, x3, rfl⟩
  refine ⟨x, rfl, br_intro (fun hb => hP _ _ (fun h => by cases h) (fun _ => .inr fun hm => ?_) (View.Le.refl _)) (fun hb => (mayTree_ok h).mono ?_)⟩
  · have := x3 hm
    have := of_decide_eq_true hb
    omega
  · have hb := of_decide_eq_false hb
    rintro r V2 ⟨rfl, hV2⟩
    exact ⟨_, rfl, hP _ _ (fun hq => ⟨not_f hq, x2 (by omega)⟩) (fun hq => .inl (not_t hq)) hV2⟩
theorem mayT_no {t : Tre} (h : mayT t = false ∨ ¬ (t.length = 12 ∧ ∀ n ∈ t, mayN n = true)) : mayT t = false := by
  rcases h with h | h
  · exact h
  · cases hM : mayT t
    · rfl
    · exact absurd ⟨(mayT_all hM).1, (mayT_all hM).2.1⟩ h
end Go.Proofs.YtdlgpolngnkiaaaGreatDoor

/- DirInside. -/
namespace Go.Proofs.YtdlgpolngnkiaaaGreatDoor
open Go
theorem mod12 (a : Int) : ∃ n : Nat, Int.tmod (IntKind.u64.wrap a) 12 = n ∧ n < 12 := by
  have hw := wrap_u64_nn a
  have m0 := Int.tmod_nonneg (12 : Int) hw
  have m1 := Int.tmod_lt_of_pos (IntKind.u64.wrap a) (show (0 : Int) < 12 by decide)
  exact ⟨(Int.tmod (IntKind.u64.wrap a) 12).toNat, by omega, by omega⟩
end Go.Proofs.YtdlgpolngnkiaaaGreatDoor

/- Contracts of copies of trees, and of trees that are cleared. -/
namespace Go.Proofs.YtdlgpolngnkiaaaGreatDoor
open Go
theorem cloneI_ok {s : Sl} {l : List Int} {V : View} (h : SlR V s l) (hl : l.length ≤ 1000) : CallV Tryz.prog 102 ⟨[.slice s.a s.n s.c]⟩ V fun r V' => ∃ x : Sl, r = .slice x.a x.n x.c ∧ SlR V' x l ∧ V.Le V' := by
  refine f102_x ?_
  unfold f102_n
  refine br_intro (fun hnil => ?_) (fun _ r hr => ?_)
  · have ha : s.a = none := Option.isNone_iff_eq_none.1 hnil
    have hl0 : l = [] := by
      cases l with
      | nil => rfl
      | cons b l => obtain ⟨ad, vs, h1, _⟩ := h.get 0 (by simp); rw [ha] at h1; cases h1
    subst hl0
    exact ⟨⟨none, 0, 0⟩, rfl, SlR.nil _ _ _, View.Le.refl V⟩
  · have hfr : V.see r = none := View.see_none_of_ge hr
    refine appRow (α := Int) (V0 := V) (l := []) (m := l) rfl (cs := []) ⟨rfl, Nat.le_refl _, Nat.zero_le _, .inr ⟨r, [], rfl, View.see_put_same _ _ _, rfl, rfl⟩⟩ rfl (h.mono ?_) ?_ (by simp; omega) (by simp; omega) ?_
    · exact put_le_hide hfr (View.Le.refl _)
    · exact put_le_hide hfr (View.Le.refl _)
    · intro z V' cs' hb hr' hle
      exact ⟨z, rfl, hb.slR hr' (View.minus_le _ _), hle.trans (View.minus_le _ _)⟩
theorem cloneE_ok {s : Sl} {l : List Ent} {V : View} (h : SlR V s l) (hl : l.length ≤ 1000) : CallV Tryz.prog 103 ⟨[.slice s.a s.n s.c]⟩ V fun r V' => ∃ x : Sl, r = .slice x.a x.n x.c ∧ SlR V' x l ∧ V.Le V' := by
  refine f103_x ?_
  unfold f103_n
  refine br_intro (fun hnil => ?_) (fun _ r hr => ?_)
  · have ha : s.a = none := Option.isNone_iff_eq_none.1 hnil
    have hl0 : l = [] := by
      cases l with
      | nil => rfl
      | cons b l => obtain ⟨ad, vs, h1, _⟩ := h.get 0 (by simp); rw [ha] at h1; cases h1
    subst hl0
    exact ⟨⟨none, 0, 0⟩, rfl, SlR.nil _ _ _, View.Le.refl V⟩
  · have hfr : V.see r = none := View.see_none_of_ge hr
    refine appRow (α := Ent) (V0 := V) (l := []) (m := l) rfl (cs := []) ⟨rfl, Nat.le_refl _, Nat.zero_le _, .inr ⟨r, [], rfl, View.see_put_same _ _ _, rfl, rfl⟩⟩ rfl (h.mono ?_) ?_ (by simp; omega) (by simp; omega) ?_
    · exact put_le_hide hfr (View.Le.refl _)
    · exact put_le_hide hfr (View.Le.refl _)
    · intro z V' cs' hb hr' hle
      exact ⟨z, rfl, hb.slR hr' (View.minus_le _ _), hle.trans (View.minus_le _ _)⟩
def LightN (n : Nod) : Prop := n.seqs.length ≤ 1000 ∧ n.ents.length ≤ 1000
theorem mayN_light {n : Nod} (h : mayN n = true) : LightN n := by
  have a := mayN_seqs h
  have b := mayL_len (mayN_ents h)
  exact ⟨by omega, by omega⟩
theorem copyN_ok {n : Nod} {s e : Sl} {V : View} (h : NodR V s e n) (hl : LightN n) : CallV Tryz.prog 79 ⟨[nodV n s e]⟩ V fun r V' => ∃ s' e' : Sl, r = nodV n s' e' ∧ NodR V' s' e' n ∧ V.Le V' := by
  refine f79_x ?_
  unfold f79_n
  refine fun _ _ => ⟨trivial, V, View.Le.refl _, (cloneI_ok h.seqs hl.1).mono ?_⟩
  rintro r V1 ⟨x, rfl, hx, hV1⟩
  refine ⟨x, rfl, hV1, (cloneE_ok (h.ents.mono hV1) hl.2).mono ?_⟩
  rintro r V2 ⟨y, rfl, hy, hV2⟩
  exact ⟨y, rfl, x, y, rfl, ⟨h.kind, h.links, h.size, hx.mono hV2, hy⟩, hV1.trans hV2⟩
theorem refCopyN_ok {n : Nod} {s e : Sl} {V : View} (h : NodR V s e n) (hl : LightN n) : CallV Tryz.prog 91 ⟨[nodV n s e]⟩ V fun r V' => ∃ s' e' : Sl, r = nodV n s' e' ∧ NodR V' s' e' n ∧ V.Le V' := by
  refine f91_x ?_
  unfold f91_n
  have l1 := hl.1
  have l2 := hl.2
  refine fun _ _ => ⟨trivial, V, View.Le.refl _, ?_⟩
  refine appRow (α := Int) (V0 := V) (l := []) (m := n.seqs) rfl (cs := []) (Buf.nil _ _ _) rfl h.seqs (View.Le.refl _) (by simp; omega) (by simp; omega) ?_
  intro x V1 cs hb hr hV1
  have hV1' := hV1.trans (View.minus_le _ _)
  refine ⟨hV1', ?_⟩
  refine appRow (α := Ent) (V0 := V1) (l := []) (m := n.ents) rfl (cs := []) (Buf.nil _ _ _) rfl (h.ents.mono hV1') (View.Le.refl _) (by simp; omega) (by simp; omega) ?_
  intro y V2 cs2 hb2 hr2 hV2
  have hV2' := hV2.trans (View.minus_le _ _)
  exact ⟨x, y, rfl, ⟨h.kind, h.links, h.size, (hb.slR hr (View.minus_le _ _)).mono hV2', hb2.slR hr2 (View.minus_le _ _)⟩, hV1'.trans hV2'⟩
/-- A tree of one's own: the row of its nodes is one's own. -/
def OwnT (V0 V : View) (x : Sl) (t : Tre) : Prop := ∃ cs, Buf V x 46 5 cs ∧ repL (V.minus x) cs t ∧ V0.Le (V.minus x)
theorem OwnT.slR {V0 V : View} {x : Sl} {t : Tre} (h : OwnT V0 V x t) : SlR V x t := by
  obtain ⟨cs, hb, hr, _⟩ := h
  exact hb.slR hr (View.minus_le _ _)
theorem OwnT.le {V0 V : View} {x : Sl} {t : Tre} (h : OwnT V0 V x t) : V0.Le V := by
  obtain ⟨cs, hb, hr, hle⟩ := h
  exact hle.trans (View.minus_le _ _)
theorem OwnT.mono {V0 V V' : View} {x : Sl} {t : Tre} (h : OwnT V0 V x t) (hV : V.Le V') : OwnT V0 V' x t := by
  obtain ⟨cs, hb, hr, hle⟩ := h
  have := minus_mono hV x
  exact ⟨cs, hb.mono hV, hr.mono this, hle.trans this⟩
theorem OwnT.from {U V0 V : View} {x : Sl} {t : Tre} (h : OwnT V0 V x t) (hV : U.Le V0) : OwnT U V x t := by
  obtain ⟨cs, hb, hr, hle⟩ := h
  exact ⟨cs, hb, hr, hV.trans hle⟩
/-- A node is set. -/
theorem OwnT.set {V0 V : View} {x : Sl} {t : Tre} (h : OwnT V0 V x t) {i : Nat} (hi : i < t.length) {n : Nod} {vs : List Value} (hn : ∀ cs, Buf V x 46 5 cs → Rep.rep (V.minus x) vs n) :
    ∃ ad, x.a = some ad ∧ canSet V (ad.add (i * 5)) 5 ∧ OwnT V0 (V.sets (ad.add (i * 5)) vs) x (t.set i n) := by
  obtain ⟨cs, hb, hr, hle⟩ := h
  have hd := hn cs hb
  have h5 : vs.length = 5 := Rep.len hd
  obtain ⟨ad, ha, h1, h2, h3, h4⟩ := hb.setE (α := Nod) hr hd hi
  rw [h5] at h1
  exact ⟨ad, ha, h1, _, h2, h3, hle.trans h4⟩
/-- A cell of a node is set. -/
theorem OwnT.setC {V0 V : View} {x : Sl} {t : Tre} (h : OwnT V0 V x t) {i : Nat} (hi : i < t.length) :
    ∃ ad sq en, x.a = some ad ∧ cellsAt V (ad.add (i * 5)) [.int .i64 (t.getD i default).kind, .int .i64 (t.getD i default).links, .int .i64 (t.getD i default).size, .slice sq.a sq.n sq.c, .slice en.a en.n en.c] ∧ NodR (V.minus x) sq en (t.getD i default) ∧
      (∀ k n, inI .i64 k → n = { t.getD i default with links := k } → canSet V ((ad.add (i * 5)).add 1) 1 ∧ OwnT V0 (V.sets ((ad.add (i * 5)).add 1) [.int .i64 k]) x (t.set i n)) ∧
      (∀ k n, inI .i64 k → n = { t.getD i default with size := k } → canSet V ((ad.add (i * 5)).add 2) 1 ∧ OwnT V0 (V.sets ((ad.add (i * 5)).add 2) [.int .i64 k]) x (t.set i n)) ∧
      (∀ q l n, SlR (V.minus x) q l → n = { t.getD i default with seqs := l } → canSet V ((ad.add (i * 5)).add 3) 1 ∧ OwnT V0 (V.sets ((ad.add (i * 5)).add 3) [.slice q.a q.n q.c]) x (t.set i n)) ∧
      (∀ q l n, SlR (V.minus x) q l → n = { t.getD i default with ents := l } → canSet V ((ad.add (i * 5)).add 4) 1 ∧ OwnT V0 (V.sets ((ad.add (i * 5)).add 4) [.slice q.a q.n q.c]) x (t.set i n)) := by
  obtain ⟨cs, hb, hr, hle⟩ := h
  obtain ⟨ad, vs, ha, hc, ⟨sq, en, rfl, h1, h2, h3, h4, h5⟩, hset⟩ := hb.setC (α := Nod) hr hi
  have e0 : t.getD i default = t[i] := getD_at hi
  rw [e0]
  refine ⟨ad, sq, en, ha, hc, ⟨h1, h2, h3, h4, h5⟩, fun k n hk hn => ?_, fun k n hk hn => ?_, fun q l n hq hn => ?_, fun q l n hq hn => ?_⟩
  · obtain ⟨a, b, c, d⟩ := hset 1 (.int .i64 k) n (by decide) ⟨sq, en, by rw [hn]; rfl, by rw [hn]; exact h1, by rw [hn]; exact hk, by rw [hn]; exact h3, by rw [hn]; exact h4, by rw [hn]; exact h5⟩
    exact ⟨a, _, b, c, hle.trans d⟩
  · obtain ⟨a, b, c, d⟩ := hset 2 (.int .i64 k) n (by decide) ⟨sq, en, by rw [hn]; rfl, by rw [hn]; exact h1, by rw [hn]; exact h2, by rw [hn]; exact hk, by rw [hn]; exact h4, by rw [hn]; exact h5⟩
    exact ⟨a, _, b, c, hle.trans d⟩
  · obtain ⟨a, b, c, d⟩ := hset 3 (.slice q.a q.n q.c) n (by decide) ⟨q, en, by rw [hn]; rfl, by rw [hn]; exact h1, by rw [hn]; exact h2, by rw [hn]; exact h3, by rw [hn]; exact hq, by rw [hn]; exact h5⟩
    exact ⟨a, _, b, c, hle.trans d⟩
  · obtain ⟨a, b, c, d⟩ := hset 4 (.slice q.a q.n q.c) n (by decide) ⟨sq, q, by rw [hn]; rfl, by rw [hn]; exact h1, by rw [hn]; exact h2, by rw [hn]; exact h3, by rw [hn]; exact h4, by rw [hn]; exact hq⟩
    exact ⟨a, _, b, c, hle.trans d⟩
theorem copyT_ok {s : Sl} {t : Tre} {V : View} (h : SlR V s t) (hl : t.length ≤ 1000 ∧ ∀ n ∈ t, LightN n) : CallV Tryz.prog 41 ⟨[treV s]⟩ V fun r V' => ∃ x : Sl, r = treV x ∧ OwnT V V' x t := by
  refine f41_x ?_
  unfold f41_n
  have hn := h.n
  refine fun _ _ _ => loop2 (k := .int .i64) (l := .sl) (fun (j : Int) (x : Sl) V' => ∃ i : Nat, j = i ∧ i ≤ t.length ∧ OwnT V V' x (t.take i)) (fun (j : Int) _ _ => t.length - j.toNat) ⟨0, rfl, by omega, [], Buf.nil _ _ _, rfl, View.Le.refl _⟩ ?_
  rintro (j : Int) (x : Sl) V1 ⟨i, rfl, hi, hO⟩
  have hV1 := hO.le
  refine br_intro (fun hlt => ?_) (fun hge => ?_)
  · have hlt : i < t.length := by have := of_decide_eq_true hlt; omega
    obtain ⟨cs, hb, hr, hle⟩ := hO
    obtain ⟨ad, sq, en, ha, hc, hN⟩ := (h.mono hle).nodN hlt
    have hmem : t.getD i default ∈ t := by rw [getD_at hlt]; exact List.getElem_mem _
    have hx := hb.n_eq (α := Nod) hr
    rw [List.length_take] at hx
    have hl1 := hl.1
    refine ⟨by omega, by omega, ad, ha, _, _, _, sq, en, cellsAt_mono (View.minus_le _ _) hc, fun _ => ⟨trivial, V, hV1, ((copyN_ok hN (hl.2 _ hmem)).besideB hb).mono ?_⟩⟩
    rintro r V2 ⟨U, ⟨s', e', rfl, hN', hU⟩, hU2, hb2⟩
    have hle2 := hle.trans (hU.trans hU2)
    have hV2 := hle2.trans (View.minus_le _ _)
    refine ⟨_, _, _, s', e', rfl, hV2, fun r hr1 => ⟨hV2.trans (View.put_le (View.see_none_of_ge hr1)), ?_⟩⟩
    refine app0 (α := Nod) rfl hb2 (hr.mono (hU.trans hU2)) (hN'.mono hU2).rep hle2 hr1 rfl (by show (x.n + 1) * 72 ≤ _; omega) (by show x.n + 1 ≤ _; omega) ?_
    intro z V3 cs3 hb3 hr3 hle3
    refine ⟨inI64 (by omega) (by omega), ⟨i + 1, by omega, by omega, cs3, hb3, ?_, hle3⟩, by omega⟩
    rw [List.take_add_one, List.getElem?_eq_getElem hlt]
    rw [getD_at hlt] at hr3; exact hr3
  · have hge : i = t.length := by have := of_decide_eq_false hge; omega
    subst hge
    rw [List.take_length] at hO
    exact ⟨x, rfl, hO⟩
theorem refCopyT_ok {s : Sl} {t : Tre} {V : View} (h : SlR V s t) (hl : t.length ≤ 1000 ∧ ∀ n ∈ t, LightN n) : CallV Tryz.prog 60 ⟨[treV s]⟩ V fun r V' => ∃ x : Sl, r = treV x ∧ OwnT V V' x t := by
  refine f60_x ?_
  unfold f60_n
  have hn := h.n
  refine fun _ _ _ => loop2 (k := .int .i64) (l := .sl) (fun (j : Int) (x : Sl) V' => ∃ i : Nat, j = i ∧ i ≤ t.length ∧ OwnT V V' x (t.take i)) (fun (j : Int) _ _ => t.length - j.toNat) ⟨0, rfl, by omega, [], Buf.nil _ _ _, rfl, View.Le.refl _⟩ ?_
  rintro (j : Int) (x : Sl) V1 ⟨i, rfl, hi, hO⟩
  have hV1 := hO.le
  refine br_intro (fun hlt => ?_) (fun hge => ?_)
  · have hlt : i < t.length := by have := of_decide_eq_true hlt; omega
    obtain ⟨cs, hb, hr, hle⟩ := hO
    obtain ⟨ad, sq, en, ha, hc, hN⟩ := (h.mono hle).nodN hlt
    have hmem : t.getD i default ∈ t := by rw [getD_at hlt]; exact List.getElem_mem _
    have hx := hb.n_eq (α := Nod) hr
    rw [List.length_take] at hx
    have hl1 := hl.1
    refine ⟨by omega, by omega, ad, ha, _, _, _, sq, en, cellsAt_mono (View.minus_le _ _) hc, fun _ => ⟨trivial, V, hV1, ((refCopyN_ok hN (hl.2 _ hmem)).besideB hb).mono ?_⟩⟩
    rintro r V2 ⟨U, ⟨s', e', rfl, hN', hU⟩, hU2, hb2⟩
    have hle2 := hle.trans (hU.trans hU2)
    have hV2 := hle2.trans (View.minus_le _ _)
    refine ⟨_, _, _, s', e', rfl, hV2, fun r hr1 => ⟨hV2.trans (View.put_le (View.see_none_of_ge hr1)), ?_⟩⟩
    refine app0 (α := Nod) rfl hb2 (hr.mono (hU.trans hU2)) (hN'.mono hU2).rep hle2 hr1 rfl (by show (x.n + 1) * 72 ≤ _; omega) (by show x.n + 1 ≤ _; omega) ?_
    intro z V3 cs3 hb3 hr3 hle3
    refine ⟨inI64 (by omega) (by omega), ⟨i + 1, by omega, by omega, cs3, hb3, ?_, hle3⟩, by omega⟩
    rw [List.take_add_one, List.getElem?_eq_getElem hlt]
    rw [getD_at hlt] at hr3; exact hr3
  · have hge : i = t.length := by have := of_decide_eq_false hge; omega
    subst hge
    rw [List.take_length] at hO
    exact ⟨x, rfl, hO⟩
/-- A file without names is none. -/
def clearN (n : Nod) : Nod := if n.kind = 1 ∧ n.links = 0 then Nod.zero else n
def clearU (t : Tre) : Tre := t.map clearN
noncomputable def clearT (t : Tre) : Tre := if mayT t then clearU t else []
theorem mayT_light {t : Tre} (h : mayT t = true) : t.length = 12 ∧ ∀ n ∈ t, LightN n := by
  unfold mayT at h
  simp only [Bool.and_eq_true, decide_eq_true_eq, List.all_eq_true] at h
  exact ⟨h.1.1.1.1, fun n hn => mayN_light (h.1.1.1.2 n hn)⟩
theorem clear_step (t : Tre) (i : Nat) (hi : i < t.length) : clearU (t.take (i + 1)) ++ t.drop (i + 1) = (clearU (t.take i) ++ t.drop i).set i (clearN (t.getD i default)) := by
  have h1 : (clearU (t.take i)).length = i := by simp [clearU]; omega
  rw [List.set_append_right _ _ (by omega), h1, Nat.sub_self, ← List.getElem_cons_drop (h := hi), List.set_cons_zero, List.take_add_one, List.getElem?_eq_getElem hi, getD_at hi]
  have e : clearU (t.take i ++ (some t[i]).toList) = clearU (t.take i) ++ [clearN t[i]] := List.map_append
  rw [e, List.append_assoc]; rfl
theorem clear_at (t : Tre) (i : Nat) (hi : i < t.length) : (clearU (t.take i) ++ t.drop i).getD i default = t.getD i default := by
  have h1 : (clearU (t.take i)).length = i := by simp [clearU]; omega
  rw [List.getD_eq_getElem?_getD, List.getElem?_append_right (by omega), h1, Nat.sub_self, List.getElem?_drop, Nat.add_zero, ← List.getD_eq_getElem?_getD]
theorem zero_rep {W : View} : Rep.rep W [.int .i64 0, .int .i64 0, .int .i64 0, .slice none 0 0, .slice none 0 0] Nod.zero := ⟨⟨none, 0, 0⟩, ⟨none, 0, 0⟩, rfl, zero64, zero64, zero64, SlR.nil _ _ _, SlR.nil _ _ _⟩
theorem zeroI : inI .i64 0 := zero64
theorem clear_loop {V0 V : View} {x : Sl} {t : Tre} (hO : OwnT V0 V x t) (hl : t.length ≤ 1000) {Q : Value → View → Prop} (hQ : ∀ V', OwnT V0 V' x (clearU t) → Q (treV x) V') :
    ∀ F : CurF (CurP [K.int .i64] → Prop) [K.int .i64], (∀ (j : Int) V J, F j V J = br (decide (j < (x.n : Int))) (0 ≤ j ∧ j < (x.n : Int) ∧ ∃ ad, x.a = some ad ∧ ∃ x_2 x_3 x_4 : Int, ∃ x_5 x_6 : Sl, cellsAt V (ad.add (j.toNat * 5)) [.int .i64 x_2, .int .i64 x_3, .int .i64 x_4, .slice x_5.a x_5.n x_5.c, .slice x_6.a x_6.n x_6.c] ∧ ∀ _b : Nat, joinP [] (fun J => br (bif decide (x_2 = 1) then decide (x_3 = 0) else false) (0 ≤ j ∧ j < (x.n : Int) ∧ ∃ ad, x.a = some ad ∧ canSet V (ad.add (j.toNat * 5)) 5 ∧ J (V.sets (ad.add (j.toNat * 5)) [.int .i64 0, .int .i64 0, .int .i64 0, .slice none 0 0, .slice none 0 0])) (J V)) fun V => inI .i64 (j + 1) ∧ J (j + 1) V) (Q (treV x) V)) →
    loopP [K.int .i64] F (0, ()) V := by
  intro F hF
  refine loop1 (k := .int .i64) (fun (j : Int) V' => ∃ i : Nat, j = i ∧ i ≤ t.length ∧ OwnT V0 V' x (clearU (t.take i) ++ t.drop i)) (fun (j : Int) _ => t.length - j.toNat) ⟨0, rfl, by omega, by simpa [clearU] using hO⟩ ?_
  rintro (j : Int) V1 ⟨i, rfl, hi, hO1⟩
  rw [hF]
  have hlen : (clearU (t.take i) ++ t.drop i).length = t.length := by simp [clearU]; omega
  have hxn := hO1.slR.n
  refine br_intro (fun hlt => ?_) (fun hge => ?_)
  · have hlt : i < t.length := by have := of_decide_eq_true hlt; omega
    obtain ⟨ad, sq, en, ha, hc, hN⟩ := hO1.slR.nodN (i := i) (by omega)
    rw [clear_at t i hlt] at hc hN
    refine ⟨by omega, by omega, ad, ha, _, _, _, sq, en, hc, fun _ => ?_⟩
    refine joinP_cut (fun _ V' => OwnT V0 V' x (clearU (t.take (i + 1)) ++ t.drop (i + 1))) (br_intro (fun hb => ?_) (fun hb => ?_)) ?_
    · have hb : (t.getD i default).kind = 1 ∧ (t.getD i default).links = 0 := by
        cases h1 : decide ((t.getD i default).kind = 1) with
        | true => rw [h1] at hb; exact ⟨of_decide_eq_true h1, of_decide_eq_true hb⟩
        | false => rw [h1] at hb; cases hb
      obtain ⟨ad2, ha2, h1, h2⟩ := hO1.set (i := i) (n := Nod.zero) (by omega) (fun _ _ => zero_rep)
      refine ⟨by omega, by omega, ad2, ha2, h1, ?_⟩
      rw [clear_step t i hlt, show clearN (t.getD i default) = Nod.zero by unfold clearN; rw [if_pos hb]]
      exact h2
    · have hb : ¬ ((t.getD i default).kind = 1 ∧ (t.getD i default).links = 0) := by
        rintro ⟨h1, h2⟩
        rw [decide_eq_true h1, decide_eq_true h2] at hb; cases hb
      show OwnT V0 V1 x _
      rw [clear_step t i hlt, show clearN (t.getD i default) = t.getD i default by unfold clearN; rw [if_neg hb]]
      have : (clearU (t.take i) ++ t.drop i).set i (t.getD i default) = clearU (t.take i) ++ t.drop i := by
        rw [← clear_at t i hlt, getD_at (by omega)]
        exact List.set_getElem_self _
      rw [this]; exact hO1
    · rintro ⟨⟩ V2 hO2
      exact ⟨inI64 (by omega) (by omega), ⟨i + 1, by omega, by omega, hO2⟩, by omega⟩
  · have hge : i = t.length := by have := of_decide_eq_false hge; omega
    subst hge
    rw [List.take_length, List.drop_length, List.append_nil] at hO1
    exact hQ V1 hO1
end Go.Proofs.YtdlgpolngnkiaaaGreatDoor

/- DirCounts. -/
namespace Go.Proofs.YtdlgpolngnkiaaaGreatDoor
open Go
/-- What a node adds to the links. -/
def linkN (t : Tre) (i : Nat) : Int := if kindT t i = 1 then (t.getD i default).links else if kindT t i = 2 ∧ 0 < i then 1 else 0
def linkU (t : Tre) : Nat → Int
  | 0 => 0
  | k + 1 => linkU t k + linkN t k
def sumU (f : Nat → Nat) : Nat → Nat
  | 0 => 0
  | k + 1 => sumU f k + f k
theorem sumU_add (f g : Nat → Nat) : ∀ k, sumU (fun i => f i + g i) k = sumU f k + sumU g k
  | 0 => rfl
  | k + 1 => by simp only [sumU, sumU_add f g k]; omega
theorem sumU_one (q : Nat) : ∀ k, sumU (fun i => if q = i then 1 else 0) k = if q < k then 1 else 0
  | 0 => rfl
  | k + 1 => by
    simp only [sumU, sumU_one q k]
    split <;> split <;> split <;> omega
theorem sumU_zero : ∀ k, sumU (fun _ => 0) k = 0
  | 0 => rfl
  | k + 1 => by simp only [sumU, sumU_zero k]
/-- Each entry names one node. -/
theorem count_sum : ∀ {l : List Ent}, (∀ e ∈ l, 0 ≤ e.node ∧ e.node < 12) → sumU (fun i => l.countP fun e => decide (e.node = (i : Int))) 12 = l.length
  | [], _ => sumU_zero 12
  | e :: l, h => by
    have ih := count_sum (l := l) fun x hx => h x (by simp [hx])
    have he := h e (by simp)
    have h1 : (fun i : Nat => (e :: l).countP fun e => decide (e.node = (i : Int))) = fun i : Nat => (l.countP fun e => decide (e.node = (i : Int))) + (if e.node.toNat = i then 1 else 0) := by
      funext i
      rw [List.countP_cons]
      congr 1
      by_cases hi : e.node.toNat = i
      · rw [if_pos hi, if_pos (decide_eq_true (show e.node = (i : Int) by omega))]
      · rw [if_neg hi, if_neg]
        intro hc
        have := of_decide_eq_true hc; omega
    rw [h1, sumU_add, ih, sumU_one, if_pos (by omega)]; rfl
theorem linkN_named {t : Tre} (h : MayF t) {i : Nat} (hi : i < 12) : linkN t i = (namedT t (i : Int) : Nat) := by
  unfold linkN
  have hz : namedT t ((0 : Nat) : Int) = 0 := by
    rw [List.countP_eq_zero]
    intro e he hd
    obtain ⟨n, hn, hen⟩ := List.mem_flatMap.1 he
    obtain ⟨j, hj, rfl⟩ := List.getElem_of_mem hn
    have hx : e ∈ entsT t j := by unfold entsT; rw [getD_at hj]; exact hen
    have := h.zero hx
    have := of_decide_eq_true hd
    omega
  rcases kind_of (h.at hi) with hk | hk | hk
  · have h0 := h.none i hi hk
    rw [if_neg (show ¬ kindT t i = 1 by unfold kindT; omega), if_neg (show ¬ (kindT t i = 2 ∧ 0 < i) by unfold kindT; omega), h0]; rfl
  · rw [if_pos (show kindT t i = 1 from hk)]
    exact h.file i hi hk
  · rw [if_neg (show ¬ kindT t i = 1 by unfold kindT; omega)]
    by_cases h0 : 0 < i
    · have := (h.dir i hi hk).2
      rw [if_pos ⟨hk, h0⟩]
      omega
    · have : i = 0 := by omega
      subst this
      rw [if_neg (by omega), hz]; rfl
theorem linkU_sum {t : Tre} (h : MayF t) : ∀ k, k ≤ 12 → linkU t k = (sumU (fun i => namedT t (i : Int)) k : Nat)
  | 0, _ => rfl
  | k + 1, hk => by
    simp only [linkU, sumU, linkU_sum h k (by omega), linkN_named h (show k < 12 by omega)]
    omega
theorem linkU_all {t : Tre} (h : MayF t) : linkU t 12 = ((allE t).length : Nat) := by
  rw [linkU_sum h 12 (by omega)]
  congr 1
  refine count_sum fun e he => ?_
  obtain ⟨n, hn, hen⟩ := List.mem_flatMap.1 he
  obtain ⟨j, hj, rfl⟩ := List.getElem_of_mem hn
  have hx : e ∈ entsT t j := by unfold entsT; rw [getD_at hj]; exact hen
  have := h.ent hx
  omega
theorem linkU_le {t : Tre} (h : MayF t) : ∀ k, k ≤ 12 → 0 ≤ linkU t k ∧ linkU t k ≤ 120 * k
  | 0, _ => by simp [linkU]
  | k + 1, hk => by
    have ih := linkU_le h k (by omega)
    have hm := h.at (show k < 12 by omega)
    have : 0 ≤ linkN t k ∧ linkN t k ≤ 120 := by
      unfold linkN
      split
      · rename_i hk1
        have hk1 : (t.getD k default).kind = 1 := hk1
        unfold mayN at hm
        rw [if_neg (by omega), if_pos hk1] at hm
        unfold fileB at hm
        simp only [Bool.and_eq_true] at hm
        have := hm.1.1.1.1
        unfold within at this
        simpa using this
      · split <;> omega
    simp only [linkU]
    omega
/-! ### a name less -/
theorem ents_len_set {t : Tre} {k : Nat} {x : Int} (hk : k < t.length) {n : Nod} {e : Ent} (he : (t.getD k default).ents = n.ents ++ [e]) (hx : e.node = x) : namedT (t.set k n) x + 1 = namedT t x := by
  induction t generalizing k with
  | nil => simp at hk
  | cons m t ih =>
    unfold namedT at ih ⊢
    cases k with
    | zero =>
      have he : m.ents = n.ents ++ [e] := by simpa using he
      rw [List.set_cons_zero, allE_cons, allE_cons, he]
      simp only [List.countP_append, List.countP_cons, List.countP_nil, hx, decide_true, if_true]
      omega
    | succ k =>
      rw [List.set_cons_succ, allE_cons, allE_cons, List.countP_append, List.countP_append]
      have := ih (k := k) (by simpa using hk) (by simpa using he)
      omega
theorem less_no {t : Tre} (hM : mayT t = true) {k : Nat} (hk : k < 12) (hne : (entsT t k) ≠ []) {n : Nod} (hn : n = { t.getD k default with ents := (entsT t k).dropLast }) : mayT (t.set k n) = false := by
  have hF := mayF hM
  have h12 := hF.len
  cases hu : mayT (t.set k n) with
  | false => rfl
  | true =>
    exfalso
    have hU := mayF hu
    have hsplit : (t.getD k default).ents = n.ents ++ [(entsT t k).getLast hne] := by
      rw [hn]; exact (List.dropLast_concat_getLast hne).symm
    have hlast : (entsT t k).getLast hne ∈ entsT t k := List.getLast_mem hne
    generalize (entsT t k).getLast hne = e at *
    have hq := hF.ent hlast
    have h1 := ents_len_set (t := t) (k := k) (by omega) hsplit rfl
    have h2 : ∀ (f : Nod → Int), (∀ l, f { t.getD k default with ents := l } = f (t.getD k default)) → ∀ j, f ((t.set k n).getD j default) = f (t.getD j default) := by
      intro f hf j
      rw [List.getD_eq_getElem?_getD, List.getD_eq_getElem?_getD, List.getElem?_set]
      split
      · rename_i hj
        subst hj
        rw [if_pos (by omega), hn]
        have := hf (entsT t k).dropLast
        rw [List.getD_eq_getElem?_getD] at this
        simpa [List.getD_eq_getElem?_getD] using this
      · rfl
    have hkind := h2 Nod.kind (fun _ => rfl) e.node.toNat
    have hlinks := h2 Nod.links (fun _ => rfl) e.node.toNat
    have hcast : ((e.node.toNat : Nat) : Int) = e.node := by omega
    have hone : 1 ≤ namedT t e.node := named_one hlast rfl
    rcases kind_of (hF.at (show e.node.toNat < 12 by omega)) with hk0 | hk1 | hk2
    · exact hq.2.2.2.2.2 hk0
    · have a := hF.file e.node.toNat (by omega) hk1
      have b := hU.file e.node.toNat (by omega) (by unfold kindT; rw [hkind]; exact hk1)
      rw [hcast] at a b
      rw [hlinks] at b
      omega
    · have a := (hF.dir e.node.toNat (by omega) hk2).2
      have b := (hU.dir e.node.toNat (by omega) (by unfold kindT; rw [hkind]; exact hk2)).2
      rw [hcast] at a b
      omega
theorem mayT_light' {t : Tre} (h : mayT t = true) : t.length ≤ 1000 ∧ ∀ n ∈ t, LightN n := by
  have := mayT_light h
  exact ⟨by omega, this.2⟩
end Go.Proofs.YtdlgpolngnkiaaaGreatDoor

/- May operations be taken in an order: the same check over bits of a number. -/
namespace Go.Proofs.YtdlgpolngnkiaaaGreatDoor
open Go
def rdyM (ops : Array Oper) (m : Nat) : List Nat := (List.range ops.size).filter fun i => !Nat.testBit m i && ((ops[i]?).map (fun o => o.after.all fun e => !Region.binds .any e || Nat.testBit m e.on)).getD false
def freeM (ops : Array Oper) (m i : Nat) : Bool := match ops[i]? with
  | none => false
  | some oi => (List.range ops.size).all fun j => j == i || Nat.testBit m j || match ops[j]? with
      | some oj => oj.after.any (fun e => Region.binds .any e && e.on == i) || oi.apart ops oj
      | none => true
def drFromM (P : Program) (ops : Array Oper) : DT → Bool → Nat → Bool → Bool
  | .done, true, m, _ => (rdyM ops m).isEmpty
  | .done, false, _, _ => false
  | .no, top, _, _ => !top
  | .fl i t, true, m, dead => match ops[i]? with
    | some o => floats P o.op && freeM ops m i && (rdyM ops m).contains i && !(isLoad P o.op && dead) && drFromM P ops t true (m ||| 2 ^ i) dead
    | none => false
  | .fl _ _, false, _, _ => false
  | .alt i e _ t r, top, m, dead => match ops[i]? with
    | some o => !floats P o.op && e == early P ops i && (!top || rdyM ops m == i :: r.heads) && !(early P ops i && dead) && drFromM P ops t true (m ||| 2 ^ i) (dead || !early P ops i) &&
        (r.heads.isEmpty || r.depth == t.depth + 1) && drFromM P ops r false m dead
    | none => false
/-- The listed ones are the bits of m. -/
structure BitsR (ops : Array Oper) (listed : Array Bool) (m : Nat) : Prop where
  size : listed.size = ops.size
  bit : ∀ j d, j < ops.size → listed.getD j d = Nat.testBit m j
  out : ∀ j, ops.size ≤ j → Nat.testBit m j = false
theorem BitsR.get {ops : Array Oper} {listed : Array Bool} {m : Nat} (h : BitsR ops listed m) (j : Nat) : listed.getD j false = Nat.testBit m j := by
  by_cases hj : j < ops.size
  · exact h.bit j false hj
  · rw [h.out j (by omega)]
    unfold Array.getD
    rw [dif_neg (by rw [h.size]; exact hj)]
theorem BitsR.set {ops : Array Oper} {listed : Array Bool} {m : Nat} (h : BitsR ops listed m) {i : Nat} (hi : i < ops.size) : BitsR ops (listed.setIfInBounds i true) (m ||| 2 ^ i) := by
  refine ⟨by rw [Array.size_setIfInBounds]; exact h.size, fun j d hj => ?_, fun j hj => ?_⟩
  · have hb := h.bit j d hj
    rw [Nat.testBit_or, Nat.testBit_two_pow]
    rw [Array.getD_eq_getD_getElem?] at hb ⊢
    rw [Array.getElem?_setIfInBounds]
    by_cases e : i = j
    · subst e
      rw [if_pos rfl, if_pos (by rw [h.size]; exact hi)]
      simp
    · rw [if_neg e, hb, decide_eq_false e, Bool.or_false]
  · rw [Nat.testBit_or, Nat.testBit_two_pow, h.out j hj, decide_eq_false (by omega)]; rfl
theorem rdy_eq {ops : Array Oper} {listed : Array Bool} {m : Nat} (h : BitsR ops listed m) : Region.ready .any ops listed = rdyM ops m := by
  unfold Region.ready rdyM
  apply List.filter_congr
  intro i hi
  rw [h.bit i true (List.mem_range.1 hi)]
  have : ∀ (o : Oper), (o.after.all fun e => !Region.binds .any e || listed.getD e.on false) = (o.after.all fun e => !Region.binds .any e || Nat.testBit m e.on) := fun o => by
    congr 1
    funext e
    rw [h.get]
  simp only [this]
theorem free_eq {ops : Array Oper} {listed : Array Bool} {m : Nat} (h : BitsR ops listed m) (i : Nat) : Region.free .any ops listed i = freeM ops m i := by
  unfold Region.free freeM
  cases ho : ops[i]? with
  | none => rfl
  | some oi =>
    simp only
    rw [Bool.eq_iff_iff, List.all_eq_true, List.all_eq_true]
    constructor
    · intro hall j hj
      have := hall j hj
      rw [h.bit j true (List.mem_range.1 hj)] at this
      exact this
    · intro hall j hj
      have := hall j hj
      rw [h.bit j true (List.mem_range.1 hj)]
      exact this
theorem drFrom_eq {P : Program} {ops : Array Oper} : ∀ (D : DT) (top : Bool) (listed : Array Bool) (m : Nat) (dead : Bool), BitsR ops listed m → drFrom P ops D top listed dead = drFromM P ops D top m dead
  | .done, true, listed, m, dead, h => by unfold drFrom drFromM; rw [rdy_eq h]
  | .done, false, _, _, _, _ => by unfold drFrom drFromM; rfl
  | .no, _, _, _, _, _ => by unfold drFrom drFromM; rfl
  | .fl i t, true, listed, m, dead, h => by
    unfold drFrom drFromM
    rw [rdy_eq h, free_eq h]
    cases ho : ops[i]? with
    | none => rfl
    | some o =>
      have hi : i < ops.size := (Array.getElem?_eq_some_iff.1 ho).1
      simp only
      rw [drFrom_eq t true _ _ dead (h.set hi)]
  | .fl _ _, false, _, _, _, _ => by unfold drFrom drFromM; rfl
  | .alt i e g t r, top, listed, m, dead, h => by
    unfold drFrom drFromM
    rw [rdy_eq h]
    cases ho : ops[i]? with
    | none => rfl
    | some o =>
      have hi : i < ops.size := (Array.getElem?_eq_some_iff.1 ho).1
      simp only
      rw [drFrom_eq t true _ _ _ (h.set hi), drFrom_eq r false _ _ dead h]
theorem drOk_fast {P : Program} {ops : Array Oper} {sched : DT} (h : (Region.noSelect ops && drFromM P ops sched true 0 false && sched.depth == ops.size) = true) : drOk P ops sched := by
  have h0 : BitsR ops (Array.replicate ops.size false) 0 := by
    refine ⟨Array.size_replicate, fun j d hj => ?_, fun j _ => Nat.zero_testBit j⟩
    rw [Array.getD_eq_getD_getElem?, Array.getElem?_replicate, if_pos hj, Nat.zero_testBit]; rfl
  unfold drOk
  rw [drFrom_eq sched true _ _ false h0, h]
  trivial
/-- The numbers that come up, written out. -/
inductive MT where
  | nil
  | fl (m : Nat) (t : MT)
  | alt (m : Nat) (d : Bool) (t r : MT)
def drFromL (P : Program) (ops : Array Oper) : DT → MT → Bool → Nat → Bool → Bool
  | .done, _, true, m, _ => (rdyM ops m).isEmpty
  | .no, _, top, _, _ => !top
  | .fl i t, .fl m' t', true, m, dead => Nat.beq (Nat.lor m (2 ^ i)) m' && match ops[i]? with
    | some o => floats P o.op && freeM ops m i && (rdyM ops m).contains i && !(isLoad P o.op && dead) && drFromL P ops t t' true m' dead
    | none => false
  | .alt i e _ t r, .alt m' d' t' r', top, m, dead => Nat.beq (Nat.lor m (2 ^ i)) m' && ((dead || !early P ops i) == d') && match ops[i]? with
    | some o => !floats P o.op && e == early P ops i && (!top || rdyM ops m == i :: r.heads) && !(early P ops i && dead) && drFromL P ops t t' true m' d' &&
        (r.heads.isEmpty || r.depth == t.depth + 1) && drFromL P ops r r' false m dead
    | none => false
  | _, _, _, _, _ => false
theorem drL_sound {P : Program} {ops : Array Oper} : ∀ (D : DT) (M : MT) (top : Bool) (m : Nat) (dead : Bool), drFromL P ops D M top m dead = true → drFromM P ops D top m dead = true
  | .done, M, true, m, dead, h => by cases M <;> exact h
  | .done, M, false, m, dead, h => by cases M <;> cases h
  | .no, M, top, m, dead, h => by cases M <;> exact h
  | .fl i t, .nil, top, m, dead, h => by cases top <;> cases h
  | .fl i t, .alt _ _ _ _, top, m, dead, h => by cases top <;> cases h
  | .fl i t, .fl m' t', false, m, dead, h => by cases h
  | .fl i t, .fl m' t', true, m, dead, h => by
    unfold drFromL at h
    rw [Bool.and_eq_true] at h
    obtain ⟨h1, h2⟩ := h
    have h1 : m ||| 2 ^ i = m' := Nat.eq_of_beq_eq_true h1
    unfold drFromM
    cases ho : ops[i]? with
    | none => rw [ho] at h2; cases h2
    | some o =>
      rw [ho] at h2
      simp only at h2 ⊢
      rw [Bool.and_eq_true] at h2 ⊢
      rw [h1]
      exact ⟨h2.1, drL_sound t t' true m' dead h2.2⟩
  | .alt i e g t r, .nil, top, m, dead, h => by cases top <;> cases h
  | .alt i e g t r, .fl _ _, top, m, dead, h => by cases top <;> cases h
  | .alt i e g t r, .alt m' d' t' r', top, m, dead, h => by
    unfold drFromL at h
    rw [Bool.and_eq_true, Bool.and_eq_true] at h
    obtain ⟨⟨h1, hd⟩, h2⟩ := h
    have h1 : m ||| 2 ^ i = m' := Nat.eq_of_beq_eq_true h1
    have hd : (dead || !early P ops i) = d' := eq_of_beq hd
    unfold drFromM
    cases ho : ops[i]? with
    | none => rw [ho] at h2; cases h2
    | some o =>
      rw [ho] at h2
      simp only at h2 ⊢
      rw [Bool.and_eq_true, Bool.and_eq_true, Bool.and_eq_true] at h2 ⊢
      rw [h1, hd]
      exact ⟨⟨⟨h2.1.1.1, drL_sound t t' true m' d' h2.1.1.2⟩, h2.1.2⟩, drL_sound r r' false m dead h2.2⟩
theorem drOk_faster {P : Program} {ops : Array Oper} {sched : DT} (M : MT) (h1 : Region.noSelect ops = true) (h2 : drFromL P ops sched M true 0 false = true) (h3 : (sched.depth == ops.size) = true) : drOk P ops sched :=
  drOk_fast (by rw [h1, drL_sound sched M true 0 false h2, h3]; rfl)
end Go.Proofs.YtdlgpolngnkiaaaGreatDoor

/- RootBack: what is written is read as it was. -/
namespace Go.Proofs.YtdlgpolngnkiaaaGreatDoor
open Go
theorem refInts_ok {s t : Sl} {l m : List Int} {V : View} (h : SlR V s l) (k : SlR V t m) : CallV Tryz.prog 66 ⟨[.slice s.a s.n s.c, .slice t.a t.n t.c]⟩ V fun r V' => r = .bool (decide (l = m)) ∧ V' = V := by
  refine f66_x ?_
  unfold f66_n
  have hn := h.n; have hlim := h.lim; have kn := k.n
  refine br_intro (fun hne => ⟨?_, rfl⟩) (fun heq => ?_)
  · have hne : ¬ (s.n : Int) = t.n := by simpa using hne
    rw [decide_eq_false]
    intro e; subst e; omega
  have heq : (s.n : Int) = t.n := by simpa using heq
  refine loop1 (k := .int .i64) (fun (x : Int) V' => V' = V ∧ 0 ≤ x ∧ x ≤ s.n ∧ l.take x.toNat = m.take x.toNat) (fun (x : Int) _ => s.n - x.toNat) ⟨rfl, by omega, by omega, rfl⟩ ?_
  rintro (x : Int) V' ⟨rfl, h0, h1, h2⟩
  refine br_intro (fun hlt => ?_) (fun hge => ?_)
  · have hlt : x < s.n := by simpa using hlt
    obtain ⟨ad, hx, ha, hc, _⟩ := h.int h0 hlt
    obtain ⟨ad', hx', ha', hc', _⟩ := k.int h0 (by omega)
    refine ⟨trivial, V', View.Le.refl _, h0, hlt, ad, ha, _, hc, h0, by omega, ad', ha', _, hc', br_intro (fun hb => ⟨?_, rfl⟩) (fun hb => ⟨inI64 (by omega) (by omega), ⟨rfl, by omega, by omega, ?_⟩, by omega⟩)⟩
    · have hb : ¬ l[x.toNat] = m[x.toNat] := by simpa using hb
      rw [decide_eq_false]
      intro e; subst e; exact hb rfl
    · have hb : l[x.toNat] = m[x.toNat] := by simpa using hb
      rw [show (x + 1).toNat = x.toNat + 1 by omega, List.take_add_one, List.take_add_one, h2, List.getElem?_eq_getElem hx, List.getElem?_eq_getElem hx', hb]
  · have hge : ¬ x < s.n := by simpa using hge
    rw [List.take_of_length_le (by omega), List.take_of_length_le (by omega)] at h2
    exact ⟨by rw [h2]; simp, rfl⟩
theorem refEnts_ok {s t : Sl} {l m : List Ent} {V : View} (h : SlR V s l) (k : SlR V t m) : CallV Tryz.prog 67 ⟨[.slice s.a s.n s.c, .slice t.a t.n t.c]⟩ V fun r V' => r = .bool (decide (l = m)) ∧ V' = V := by
  refine f67_x ?_
  unfold f67_n
  have hn := h.n; have hlim := h.lim; have kn := k.n
  refine br_intro (fun hne => ⟨?_, rfl⟩) (fun heq => ?_)
  · have hne : ¬ (s.n : Int) = t.n := by simpa using hne
    rw [decide_eq_false]
    intro e; subst e; omega
  have heq : (s.n : Int) = t.n := by simpa using heq
  refine loop1 (k := .int .i64) (fun (x : Int) V' => V' = V ∧ 0 ≤ x ∧ x ≤ s.n ∧ l.take x.toNat = m.take x.toNat) (fun (x : Int) _ => s.n - x.toNat) ⟨rfl, by omega, by omega, rfl⟩ ?_
  rintro (x : Int) V' ⟨rfl, h0, h1, h2⟩
  refine br_intro (fun hlt => ?_) (fun hge => ?_)
  · have hlt : x < s.n := by simpa using hlt
    obtain ⟨ad, hx, ha, hc, _⟩ := h.ent h0 hlt
    obtain ⟨ad', hx', ha', hc', _⟩ := k.ent h0 (by omega)
    refine ⟨trivial, V', View.Le.refl _, h0, hlt, ad, ha, _, _, hc, h0, by omega, ad', ha', _, _, hc', trivial, ?_⟩
    rw [ent_eq]
    refine br_intro (fun hb => ⟨?_, rfl⟩) (fun hb => ⟨inI64 (by omega) (by omega), ⟨rfl, by omega, by omega, ?_⟩, by omega⟩)
    · have hb : ¬ l[x.toNat] = m[x.toNat] := by simpa using hb
      rw [decide_eq_false]
      intro e; subst e; exact hb rfl
    · have hb : l[x.toNat] = m[x.toNat] := by simpa using hb
      rw [show (x + 1).toNat = x.toNat + 1 by omega, List.take_add_one, List.take_add_one, h2, List.getElem?_eq_getElem hx, List.getElem?_eq_getElem hx', hb]
  · have hge : ¬ x < s.n := by simpa using hge
    rw [List.take_of_length_le (by omega), List.take_of_length_le (by omega)] at h2
    exact ⟨by rw [h2]; simp, rfl⟩
theorem refSameN_ok {a b : Nod} {s e s' e' : Sl} {V : View} (h : NodR V s e a) (k : NodR V s' e' b) : CallV Tryz.prog 31 ⟨[nodV a s e, nodV b s' e']⟩ V fun r V' => r = .bool (decide (a = b)) ∧ V' = V := by
  refine f31_x ?_
  unfold f31_n
  rw [nod_eq]
  refine fun _ _ => joinP_cut (fun q V' => q.1 = (decide (a.kind = b.kind) && decide (a.links = b.links) && decide (a.size = b.size) && (decide (a.seqs = b.seqs) && decide (a.ents = b.ents))) ∧ V' = V) (br_intro (fun hb => (refInts_ok h.seqs k.seqs).mono ?_) (fun hb => ⟨?_, rfl⟩)) ?_
  · have hb : (decide (a.kind = b.kind) && decide (a.links = b.links) && decide (a.size = b.size)) = true := by
      cases h1 : decide (a.kind = b.kind) <;> cases h2 : decide (a.links = b.links) <;> cases h3 : decide (a.size = b.size) <;> simp_all
    rw [hb]
    rintro r V1 ⟨rfl, rfl⟩
    refine ⟨_, rfl, br_intro (fun h1 => (refEnts_ok h.ents k.ents).mono ?_) (fun h1 => ⟨by rw [h1]; rfl, rfl⟩)⟩
    rintro r V2 ⟨rfl, rfl⟩
    exact ⟨_, rfl, by rw [h1]; rfl, rfl⟩
  · have hb : (decide (a.kind = b.kind) && decide (a.links = b.links) && decide (a.size = b.size)) = false := by
      cases h1 : decide (a.kind = b.kind) <;> cases h2 : decide (a.links = b.links) <;> cases h3 : decide (a.size = b.size) <;> simp_all
    rw [hb]; rfl
  · rintro ⟨q, ⟨⟩⟩ V1 ⟨h1, hV⟩
    simp only at h1 hV
    subst h1 hV
    exact ⟨rfl, rfl⟩
theorem refSameT_ok {s t : Sl} {l m : Tre} {V : View} (h : SlR V s l) (k : SlR V t m) : CallV Tryz.prog 10 ⟨[treV s, treV t]⟩ V fun r V' => r = .bool (decide (l = m)) ∧ V' = V := by
  refine f10_x ?_
  unfold f10_n
  have hn := h.n; have hlim := h.lim; have kn := k.n
  refine fun _ _ => br_intro (fun hne => ⟨?_, rfl⟩) (fun heq => ?_)
  · have hne : ¬ (s.n : Int) = t.n := by simpa using hne
    rw [decide_eq_false]
    intro e; subst e; omega
  have heq : (s.n : Int) = t.n := by simpa using heq
  refine loop1 (k := .int .i64) (fun (x : Int) V' => V' = V ∧ 0 ≤ x ∧ x ≤ s.n ∧ l.take x.toNat = m.take x.toNat) (fun (x : Int) _ => s.n - x.toNat) ⟨rfl, by omega, by omega, rfl⟩ ?_
  rintro (x : Int) V' ⟨rfl, h0, h1, h2⟩
  refine br_intro (fun hlt => ?_) (fun hge => ?_)
  · have hlt : x < s.n := by simpa using hlt
    obtain ⟨ad, sq, en, hx, ha, hc, hN⟩ := h.nod h0 hlt
    obtain ⟨ad', sq', en', hx', ha', hc', hN'⟩ := k.nod h0 (by omega)
    refine ⟨trivial, V', View.Le.refl _, h0, hlt, ad, ha, _, _, _, sq, en, hc, h0, by omega, ad', ha', _, _, _, sq', en', hc', (refSameN_ok hN hN').mono ?_⟩
    rintro r V1 ⟨rfl, rfl⟩
    refine ⟨_, rfl, br_intro (fun hb => ⟨?_, rfl⟩) (fun hb => ⟨inI64 (by omega) (by omega), ⟨rfl, by omega, by omega, ?_⟩, by omega⟩)⟩
    · have hb : ¬ l[x.toNat] = m[x.toNat] := of_decide_eq_false (not_t hb)
      rw [decide_eq_false]
      intro e; subst e; exact hb rfl
    · have hb : l[x.toNat] = m[x.toNat] := of_decide_eq_true (not_f hb)
      rw [show (x + 1).toNat = x.toNat + 1 by omega, List.take_add_one, List.take_add_one, h2, List.getElem?_eq_getElem hx, List.getElem?_eq_getElem hx', hb]
  · have hge : ¬ x < s.n := by simpa using hge
    rw [List.take_of_length_le (by omega), List.take_of_length_le (by omega)] at h2
    exact ⟨by rw [h2]; simp, rfl⟩
/-! ### sheets -/
theorem numL_small {n : Nat} (h : n < 128) : (numL n).length = 1 := by
  have : n / 128 = 0 := Nat.div_eq_of_lt h
  unfold numL
  rw [this]
  rfl
theorem numI_small {n : Int} (h0 : 0 ≤ n) (h : n < 128) : (numI n).length = 1 := by
  unfold numI
  exact numL_small (by unfold clampN; omega)
theorem numI_six (n : Int) : (numI n).length ≤ 6 := by
  unfold numI numL
  have := hi_len5 (clampN_le n)
  simp only [List.length_append, List.length_cons, List.length_nil]
  omega
theorem numsL_six : ∀ l : List Int, (numsL l).length ≤ 6 * l.length
  | [] => by simp [numsL]
  | n :: l => by
    have h1 := numsL_six l
    have h2 := numI_six n
    have e : numsL (n :: l) = numI n ++ numsL l := by simp [numsL]
    rw [e, List.length_append, List.length_cons]; omega
theorem encE_ten {x : Ent} (h8 : x.name.size ≤ 8) (h0 : 0 ≤ x.node) (h1 : x.node < 12) : (encE x).length ≤ 10 := by
  unfold encE textL
  have a := numI_small (n := ((bl x.name).length : Nat)) (by omega) (by rw [bl_len]; omega)
  have b := numI_small h0 (show x.node < 128 by omega)
  have c := bl_len x.name
  simp only [List.length_append]
  omega
theorem encEs_ten : ∀ {l : List Ent}, (∀ x ∈ l, x.name.size ≤ 8 ∧ 0 ≤ x.node ∧ x.node < 12) → (encEs l).length ≤ 10 * l.length
  | [], _ => by simp [encEs]
  | x :: l, h => by
    have h1 := encEs_ten (l := l) fun y hy => h y (by simp [hy])
    have hx := h x (by simp)
    have h2 := encE_ten hx.1 hx.2.1 hx.2.2
    have e : encEs (x :: l) = encE x ++ encEs l := by simp [encEs]
    rw [e, List.length_append, List.length_cons]; omega
theorem encN_short {n : Nod} (h : mayN n = true) : (encN n).length ≤ 102 := by
  have h1 := mayN_seqs h
  have h2 := mayL_len (mayN_ents h)
  have h3 := encEs_ten (l := n.ents) fun x hx => by
    have := mayL_node (mayN_ents h) hx
    have := mayB_size this.2.2
    omega
  have h4 := numsL_six n.seqs
  by_cases k1 : n.kind = 1
  · rw [encN_1 k1]
    have a : (numI 1).length = 1 := rfl
    have b := numI_six n.links
    have c := numI_six n.size
    simp only [List.length_append]; omega
  · by_cases k2 : n.kind = 2
    · rw [encN_2 k2]
      have a : (numI 2).length = 1 := rfl
      have b := numI_small (n := ((n.ents.length : Nat) : Int)) (by omega) (by omega)
      simp only [List.length_append]; omega
    · rw [encN_0 k1 k2]
      have := numI_six n.kind
      omega
theorem encT_short : ∀ {t : Tre}, (∀ n ∈ t, mayN n = true) → (encT t).length ≤ 102 * t.length
  | [], _ => by simp [encT]
  | n :: t, h => by
    have h1 := encT_short (t := t) fun y hy => h y (by simp [hy])
    have h2 := encN_short (h n (by simp))
    have e : encT (n :: t) = encN n ++ encT t := by simp [encT]
    rw [e, List.length_append, List.length_cons]; omega
theorem laidEnd {V V0 : View} {x : Sl} {l : List UInt8} {r : Nat} {C : Sl → View → Prop} (hb : Buf V x 5 1 (u8s l)) (hle : V0.Le (V.minus x)) (hr : rowAt V (some ⟨r, 0, none⟩) (1 * 1) (u8s [90])) (hl : l.length ≤ 4000)
    (hC : ∀ s V', s.n = l.length + 1 → V0.Le V' → C s V') : apV V 5 1 1 [.int .u8 0] x (.slice (some ⟨r, 0, none⟩) 1 1) C := by
  have hxn : x.n = l.length := by have := hb.len; rw [u8s_len, Nat.mul_one] at this; exact this.symm
  refine apV_buf rfl hb (src := u8s [90]) (m := 1) ⟨rfl, hr⟩ rfl (u8s_one _) (by show (x.n + 1) * 1 ≤ _; omega) (by show x.n + 1 ≤ _; omega) fun s V' _ hn hle' => ?_
  exact hC s V' (by rw [hn, hxn]) ((hle.trans hle').trans (View.minus_le _ _))
theorem row90 {V : View} {r : Nat} (h : V.see r = some (.cells ⟨putL [.int .u8 0] 0 [.int .u8 90]⟩ 5 (0, 0))) : rowAt V (some ⟨r, 0, none⟩) (1 * 1) (u8s [90]) := rowAt_new h rfl
end Go.Proofs.YtdlgpolngnkiaaaGreatDoor

/- RootClears. -/
namespace Go.Proofs.YtdlgpolngnkiaaaGreatDoor
open Go
/-! ### plain -/
theorem clearN_cases (n : Nod) : (n.kind = 1 ∧ n.links = 0 ∧ clearN n = Nod.zero) ∨ (¬ (n.kind = 1 ∧ n.links = 0) ∧ clearN n = n) := by
  unfold clearN
  by_cases h : n.kind = 1 ∧ n.links = 0
  · exact .inl ⟨h.1, h.2, by rw [if_pos h]⟩
  · exact .inr ⟨h, by rw [if_neg h]⟩
theorem clear_getD {t : Tre} {i : Nat} (hi : i < t.length) : (clearU t).getD i default = clearN (t.getD i default) := by
  unfold clearU
  rw [List.getD_eq_getElem?_getD, List.getElem?_map, List.getElem?_eq_getElem hi, getD_at hi]; rfl
theorem clear_len (t : Tre) : (clearU t).length = t.length := by simp [clearU]
theorem file_ents {n : Nod} (h : mayN n = true) (hk : n.kind = 1) : n.ents = [] := by
  unfold mayN at h
  rw [if_neg (by omega), if_pos hk] at h
  unfold fileB at h
  simp only [Bool.and_eq_true, decide_eq_true_eq] at h
  exact List.eq_nil_of_length_eq_zero h.1.2
theorem clearN_ents {n : Nod} (h : mayN n = true) : (clearN n).ents = n.ents := by
  rcases clearN_cases n with ⟨h1, _, h3⟩ | ⟨_, h3⟩
  · rw [h3, file_ents h h1]; rfl
  · rw [h3]
theorem clear_ents {t : Tre} (h : MayF t) (i : Nat) : entsT (clearU t) i = entsT t i := by
  unfold entsT
  by_cases hi : i < 12
  · rw [clear_getD (by rw [h.len]; exact hi), clearN_ents (h.at hi)]
  · rw [List.getD_eq_getElem?_getD, List.getD_eq_getElem?_getD, List.getElem?_eq_none (by rw [clear_len, h.len]; omega), List.getElem?_eq_none (by rw [h.len]; omega)]
theorem reach_congr {t u : Tre} (h : ∀ i, entsT t i = entsT u i) {a b : Nat} (hr : Reach t a b) : Reach u a b := by
  induction hr with
  | refl => exact .refl
  | @step i x _ hx ih =>
    refine .step ih ?_
    have := h i
    unfold entsT at this
    rw [← this]; exact hx
theorem metB_congr {t u : Tre} (h : ∀ i, entsT t i = entsT u i) (a b : Nat) : metB t a b = metB u a b := by
  rw [Bool.eq_iff_iff, metB_iff, metB_iff]
  exact ⟨reach_congr h, reach_congr fun i => (h i).symm⟩
theorem clear_allE : ∀ {t : Tre}, (∀ n ∈ t, mayN n = true) → allE (clearU t) = allE t
  | [], _ => rfl
  | n :: t, h => by
    have ih := clear_allE (t := t) fun m hm => h m (by simp [hm])
    have e : clearU (n :: t) = clearN n :: clearU t := rfl
    rw [e, allE_cons, allE_cons, ih, clearN_ents (h n (by simp))]
theorem mayN_zero : mayN Nod.zero = true := by decide
theorem clear_seqs (n : Nod) : List.Sublist ((clearN n).seqs.filter (fun s => decide (s ≠ 0))) (n.seqs.filter (fun s => decide (s ≠ 0))) := by
  rcases clearN_cases n with ⟨_, _, h3⟩ | ⟨_, h3⟩
  · rw [h3]; exact List.nil_sublist _
  · rw [h3]; exact List.Sublist.refl _
theorem clear_allS : ∀ t : Tre, List.Sublist ((allS (clearU t)).filter (fun s => decide (s ≠ 0))) ((allS t).filter (fun s => decide (s ≠ 0)))
  | [] => List.Sublist.refl _
  | n :: t => by
    have e1 : allS (clearU (n :: t)) = (clearN n).seqs ++ allS (clearU t) := by simp [clearU, allS]
    have e2 : allS (n :: t) = n.seqs ++ allS t := by simp [allS]
    rw [e1, e2, List.filter_append, List.filter_append]
    exact (clear_seqs n).append (clear_allS t)
theorem mayT_clear {t : Tre} (hM : mayT t = true) : mayT (clearU t) = true := by
  have hF := mayF hM
  obtain ⟨h12, hall, hk, hh, hap⟩ := mayT_all hM
  unfold mayT
  simp only [Bool.and_eq_true, decide_eq_true_eq, List.all_eq_true, List.mem_range]
  refine ⟨⟨⟨⟨by rw [clear_len, h12], fun n hn => ?_⟩, ?_⟩, fun i hi => ?_⟩, ?_⟩
  · obtain ⟨m, hm, rfl⟩ := List.mem_map.1 hn
    rcases clearN_cases m with ⟨_, _, h3⟩ | ⟨_, h3⟩
    · rw [h3]; exact mayN_zero
    · rw [h3]; exact hall m hm
  · rw [clear_getD (by omega)]
    rcases clearN_cases (t.getD 0 default) with ⟨h1, _, _⟩ | ⟨_, h3⟩
    · have hk : (t.getD 0 default).kind = 2 := hk
      omega
    · rw [h3]; exact hk
  · have hb := hh i hi
    rw [clear_getD (by omega), clear_allE hall, metB_congr (clear_ents hF)]
    rcases clearN_cases (t.getD i default) with ⟨h1, h2, h3⟩ | ⟨_, h3⟩
    · rw [h3]
      unfold hangB at hb ⊢
      rw [if_neg (by omega), if_pos h1] at hb
      have hb := of_decide_eq_true hb
      rw [if_neg (by decide), if_neg (by decide)]
      exact decide_eq_true (by omega)
    · rw [h3]; exact hb
  · unfold apartL at hap ⊢
    exact decide_eq_true ((of_decide_eq_true hap).sublist (clear_allS t))
theorem clear_twice (t : Tre) : clearU (clearU t) = clearU t := by
  unfold clearU
  rw [List.map_map]
  congr 1
  funext n
  show clearN (clearN n) = clearN n
  rcases clearN_cases n with ⟨_, _, h3⟩ | ⟨_, h3⟩
  · rw [h3]; decide
  · rw [h3]; exact h3
theorem walkT_clear {t : Tre} (hM : mayT t = true) : walkT (clearU t) = walkT t := by
  unfold walkT
  rw [if_pos hM, if_pos (mayT_clear hM)]
  exact walkG_congr (clear_ents (mayF hM)) 12 0 []
theorem refsN_clear (i : Int) (n : Nod) : (refsN i (clearN n)).length ≤ (refsN i n).length := by
  rcases clearN_cases n with ⟨_, _, h3⟩ | ⟨_, h3⟩
  · rw [h3]
    have : refsN i Nod.zero = [] := by unfold refsN; rw [if_neg (by rintro ⟨h, _⟩; cases h)]
    rw [this]; exact Nat.zero_le _
  · rw [h3]; exact Nat.le_refl _
theorem refsU_clear {t : Tre} (h12 : t.length = 12) : ∀ k, k ≤ 12 → (refsU (clearU t) k).length ≤ (refsU t k).length
  | 0, _ => by simp [refsU]
  | k + 1, hk => by
    have ih := refsU_clear h12 k (by omega)
    have := refsN_clear (k : Int) (t.getD k default)
    rw [refsU_succ, refsU_succ, List.length_append, List.length_append, clear_getD (by omega)]
    omega
theorem refsT_clear {t : Tre} (hM : mayT t = true) : (refsT (clearU t)).length ≤ (refsT t).length := by
  have h12 := (mayT_all hM).1
  unfold refsT
  rw [if_pos hM, if_pos (mayT_clear hM), clear_len, h12]
  exact refsU_clear h12 12 (by omega)
theorem clearT_of {t : Tre} (hM : mayT t = true) : clearT t = clearU t := by unfold clearT; rw [if_pos hM]
end Go.Proofs.YtdlgpolngnkiaaaGreatDoor

/- DirWalks. -/
namespace Go.Proofs.YtdlgpolngnkiaaaGreatDoor
open Go
theorem bl_extract (x : ByteArray) (n : Nat) : bl (x.extract 0 n) = (bl x).take n := by
  unfold bl
  rw [ByteArray.data_extract, Array.toList_extract]
  simp
theorem goes_on {x s : ByteArray} (h1 : s.size < x.size) (h2 : x.extract 0 s.size = s) (h3 : (x.data.toList.getD s.size 0).toNat = 47) : ∃ r, bl x = bl s ++ 47 :: r := by
  have hl : s.size < (bl x).length := by rw [bl_len]; exact h1
  refine ⟨(bl x).drop (s.size + 1), ?_⟩
  have e1 : (bl x).take s.size = bl s := by rw [← bl_extract, h2]
  have e2 : (bl x)[s.size] = 47 := by
    have : x.data.toList.getD s.size 0 = (bl x)[s.size] := by rw [List.getD_eq_getElem?_getD, List.getElem?_eq_getElem (show s.size < x.data.toList.length from hl)]; rfl
    rw [this] at h3
    exact UInt8.toNat_inj.1 h3
  rw [← e1, ← e2, List.getElem_cons_drop, List.take_append_drop]
theorem size_lim {V : View} {x : Sl} {l : List ByteArray} (h : SlR V x l) {i : Nat} (hi : i < l.length) : l[i].size ≤ 9223372036854775807 := by
  obtain ⟨_, _, _, h2⟩ := h.strN hi
  exact h2
theorem told_snoc {l : List ByteArray} {i : Nat} (hi : i < l.length) (p : ByteArray) : ((l.take (i + 1)).any fun s => decide (s = p)) = (((l.take i).any fun s => decide (s = p)) || decide (l[i] = p)) := by
  rw [List.take_add_one, List.getElem?_eq_getElem hi, List.any_append]
  simp
end Go.Proofs.YtdlgpolngnkiaaaGreatDoor

/- Calls on names, as plain functions of trees. No program in this text. -/
namespace Go.Proofs.YtdlgpolngnkiaaaGreatDoor
open Go
/-! ### entries -/
def insE (l : List Ent) (x : Ent) : List Ent := l.takeWhile (fun e => sLess e.name x.name) ++ x :: l.dropWhile (fun e => sLess e.name x.name)
def cutE (l : List Ent) (s : ByteArray) : List Ent := l.filter fun e => !decide (e.name = s)
def hasE (l : List Ent) (s : ByteArray) : Bool := l.any fun e => decide (e.name = s)
def withE (l : List Ent) (x : Ent) : Except Int (List Ent) :=
  if (mayL l && soleE x) = true then (if hasE l x.name = true then .error 9 else if 10 ≤ l.length then .error 14 else .ok (insE l x)) else .error 1
def withoutE (l : List Ent) (s : ByteArray) : Except Int (List Ent) := if mayL l = true then (if hasE l s = true then .ok (cutE l s) else .error 8) else .error 1
theorem idx_has (l : List Ent) (s : ByteArray) : decide (0 ≤ idxI (fun e : Ent => decide (e.name = s)) l) = hasE l s := by
  rcases idxI_find (fun e : Ent => decide (e.name = s)) l with ⟨h1, h2⟩ | ⟨i, hi, h1, h2⟩
  · rw [h1]
    unfold hasE
    rw [decide_eq_false (by decide), eq_comm, List.any_eq_false]
    intro e he
    have := List.find?_eq_none.1 h2 e he
    simpa using this
  · rw [h1, decide_eq_true (by omega), eq_comm]
    unfold hasE
    rw [List.any_eq_true]
    exact ⟨_, List.mem_of_find?_eq_some h2, by have := List.find?_some h2; simpa using this⟩
theorem at_has {l : List Ent} (h : ∀ e ∈ l, 0 ≤ e.node) (s : ByteArray) : decide (0 ≤ atI l s) = hasE l s := by
  unfold atI
  cases hf : l.find? (fun x => decide (x.name = s)) with
  | none =>
    unfold hasE
    rw [decide_eq_false (by decide), eq_comm, List.any_eq_false]
    intro e he
    have := List.find?_eq_none.1 hf e he
    simpa using this
  | some x =>
    have hm := List.mem_of_find?_eq_some hf
    rw [decide_eq_true (h x hm), eq_comm]
    unfold hasE
    rw [List.any_eq_true]
    exact ⟨x, hm, by have := List.find?_some hf; simpa using this⟩
theorem has_false {l : List Ent} {s : ByteArray} : hasE l s = false ↔ ∀ e ∈ l, e.name ≠ s := by
  unfold hasE; rw [List.any_eq_false]
  exact ⟨fun h e he => by simpa using h e he, fun h e he => by simpa using h e he⟩
theorem has_true {l : List Ent} {s : ByteArray} : hasE l s = true ↔ ∃ e ∈ l, e.name = s := by
  unfold hasE; rw [List.any_eq_true]
  exact ⟨fun ⟨e, h1, h2⟩ => ⟨e, h1, of_decide_eq_true h2⟩, fun ⟨e, h1, h2⟩ => ⟨e, h1, decide_eq_true h2⟩⟩
theorem cut_none {l : List Ent} {s : ByteArray} (h : hasE l s = false) : cutE l s = l := by
  unfold cutE; rw [List.filter_eq_self]
  intro e he
  rw [decide_eq_false (has_false.1 h e he)]; rfl
theorem cut_len (l : List Ent) (s : ByteArray) : (cutE l s).length ≤ l.length := List.length_filter_le _ _
theorem cut_has (l : List Ent) (s : ByteArray) : hasE (cutE l s) s = false := has_false.2 fun e he => by
  unfold cutE at he
  simpa using (List.mem_filter.1 he).2
theorem cut_mem {l : List Ent} {s : ByteArray} {e : Ent} : e ∈ cutE l s ↔ e ∈ l ∧ e.name ≠ s := by
  unfold cutE; rw [List.mem_filter]; simp
/-- Where it is taken away: by its place. -/
theorem cut_erase : ∀ {l : List Ent} {s : ByteArray} {i : Nat} (hi : i < l.length), (l.Pairwise fun a b => a.name ≠ b.name) → l[i].name = s → cutE l s = l.take i ++ l.drop (i + 1)
  | e :: l, s, 0, _, hp, hs => by
    rw [List.pairwise_cons] at hp
    have h1 : cutE (e :: l) s = cutE l s := by
      unfold cutE
      rw [List.filter_cons_of_neg (by simpa using hs)]
    rw [h1, cut_none (has_false.2 fun x hx hxs => hp.1 x hx (by rw [hxs]; exact hs))]; rfl
  | e :: l, s, i + 1, hi, hp, hs => by
    rw [List.pairwise_cons] at hp
    have hi' : i < l.length := by simpa using hi
    have hs' : l[i].name = s := by simpa using hs
    have h1 : cutE (e :: l) s = e :: cutE l s := by
      unfold cutE
      rw [List.filter_cons_of_pos]
      have := hp.1 l[i] (List.getElem_mem hi')
      simp; rw [← hs']; exact this
    rw [h1, cut_erase hi' hp.2 hs']; rfl
/-! ### trees -/
def entT (t : Tre) (d : Nat) (l : List Ent) : Tre := t.set d { t.getD d default with ents := l }
def emptyN (k : Int) : Nod := if k = 1 then ⟨1, 1, 0, [0, 0, 0, 0, 0], []⟩ else if k = 2 then ⟨2, 1, 0, [], []⟩ else Nod.zero
def heldB (held : List Bool) (i : Nat) : Bool := held.getD i false
/-- A name less of a node. -/
def lessT (t : Tre) (i : Nat) (held : List Bool) : Tre :=
  if kindT t i = 1 ∧ (0 < (t.getD i default).links - 1 ∨ heldB held i = true) then t.set i { t.getD i default with links := (t.getD i default).links - 1 } else t.set i Nod.zero
noncomputable def makesT (t : Tre) (p : ByteArray) (k : Int) : Except Int Tre := match parentT t p with
  | .error e => .error e
  | .ok (d, s) => if 0 ≤ atI (entsT t d) s then .error 9 else if freeT t < 0 then .error 14 else if 10 ≤ (entsT t d).length then .error 14 else
    .ok ((entT t d (insE (entsT t d) ⟨s, freeT t⟩)).set (freeT t).toNat (emptyN k))
noncomputable def unlinkT (t : Tre) (p : ByteArray) (held : List Bool) : Except Int Tre := match parentT t p with
  | .error e => .error e
  | .ok (d, s) => if atI (entsT t d) s < 0 then .error 8 else if kindT t (atI (entsT t d) s).toNat = 2 then .error 10 else
    .ok (lessT (entT t d (cutE (entsT t d) s)) (atI (entsT t d) s).toNat held)
noncomputable def rmdirT (t : Tre) (p : ByteArray) : Except Int Tre := match parentT t p with
  | .error e => .error e
  | .ok (d, s) => if atI (entsT t d) s < 0 then .error 8 else if kindT t (atI (entsT t d) s).toNat ≠ 2 then .error 11 else if 0 < (entsT t (atI (entsT t d) s).toNat).length then .error 12 else
    .ok ((entT t d (cutE (entsT t d) s)).set (atI (entsT t d) s).toNat Nod.zero)
noncomputable def linkT (t : Tre) (p q : ByteArray) : Except Int Tre := match findT t p with
  | .error e => .error e
  | .ok i => if kindT t i = 2 then .error 10 else match parentT t q with
    | .error e => .error e
    | .ok (d, s) => if 0 ≤ atI (entsT t d) s then .error 9 else if 10 ≤ (entsT t d).length then .error 14 else
      .ok ((entT t d (insE (entsT t d) ⟨s, i⟩)).set i { t.getD i default with links := (t.getD i default).links + 1 })
def replN (a b : Nod) : Int := if a.kind = 2 ∧ b.kind ≠ 2 then 11 else if a.kind ≠ 2 ∧ b.kind = 2 then 10 else if 0 < b.ents.length then 12 else 0
/-- Behind the checks: out of one place, into another one. -/
def moveT (t : Tre) (d : Nat) (s : ByteArray) (_i : Nat) (f : Nat) (r : ByteArray) (k : Int) (held : List Bool) : Tre :=
  if 0 ≤ k then lessT (entT (entT t d (cutE (entsT t d) s)) f (cutE (entsT (entT t d (cutE (entsT t d) s)) f) r)) k.toNat held else entT t d (cutE (entsT t d) s)
noncomputable def renameT (t : Tre) (p q : ByteArray) (held : List Bool) : Except Int Tre := match parentT t p with
  | .error e => .error e
  | .ok (d, s) => if atI (entsT t d) s < 0 then .error 8 else match parentT t q with
    | .error e => .error e
    | .ok (f, r) => if atI (entsT t f) r = atI (entsT t d) s then .ok t else if insideT t (atI (entsT t d) s) f = true then .error 17 else
      if 0 ≤ atI (entsT t f) r ∧ replN (t.getD (atI (entsT t d) s).toNat default) (t.getD (atI (entsT t f) r).toNat default) ≠ 0 then .error (replN (t.getD (atI (entsT t d) s).toNat default) (t.getD (atI (entsT t f) r).toNat default)) else
      if 10 ≤ (entsT (moveT t d s (atI (entsT t d) s).toNat f r (atI (entsT t f) r) held) f).length then .error 14 else
      .ok (entT (moveT t d s (atI (entsT t d) s).toNat f r (atI (entsT t f) r) held) f (insE (entsT (moveT t d s (atI (entsT t d) s).toNat f r (atI (entsT t f) r) held) f) ⟨r, atI (entsT t d) s⟩))
noncomputable def dropT (t : Tre) (i : Int) : Except Int Tre := if mayT t = true then (if 0 ≤ i ∧ i < 12 ∧ kindT t i.toNat = 1 ∧ (t.getD i.toNat default).links ≤ 0 then .ok (t.set i.toNat Nod.zero) else .error 18) else .error 1
/-! ### what is told of a parent -/
theorem mayB_of {s : ByteArray} {l : List ByteArray} (h : splitP s = some l) {n : ByteArray} (hn : n ∈ l) : mayB n = true := List.all_eq_true.1 (splitP_some h).2.1 n hn
structure Par (t : Tre) (p : ByteArray) (ld : List ByteArray) (d : Nat) (s : ByteArray) : Prop where
  may : mayT t = true
  split : splitP p = some (ld ++ [s])
  go : goF t 0 ld = .ok d
  kind : kindT t d = 2
theorem Par.eq {t : Tre} {p s : ByteArray} {ld : List ByteArray} {d : Nat} (h : Par t p ld d s) : parentT t p = .ok (d, s) := by
  unfold parentT
  rw [if_pos h.may, last_of h.split]
  show (if (0 : Int) = 0 then _ else _) = _
  rw [if_pos rfl, find_of h.may (split_drop h.split), h.go]
  show (if kindT t d = 2 then _ else _) = _
  rw [if_pos h.kind]
theorem par_of {t : Tre} {p s : ByteArray} {d : Nat} (h : parentT t p = .ok (d, s)) : ∃ ld, Par t p ld d s := by
  unfold parentT at h
  split at h
  · rename_i hM
    split at h
    · rename_i h0
      have hsp : ∃ l n, splitP p = some (l ++ [n]) := by
        unfold lastP at h0
        split at h0
        · exact absurd h0 (by decide)
        · rename_i l hl
          rcases nil_or_snoc l with rfl | ⟨m, n, rfl⟩
          · simp at h0
          · exact ⟨m, n, hl⟩
      obtain ⟨l, n, hl⟩ := hsp
      rw [last_of hl] at h
      rw [find_of hM (split_drop hl)] at h
      cases hg : goF t 0 l with
      | error e => simp only [hg] at h; cases h
      | ok i =>
        simp only [hg] at h
        split at h
        · rename_i hk
          cases h
          exact ⟨l, hM, hl, hg, hk⟩
        · cases h
    · cases h
  · cases h
theorem Par.sole {t : Tre} {p s : ByteArray} {ld : List ByteArray} {d : Nat} (h : Par t p ld d s) : mayB s = true := mayB_of h.split (by simp)
theorem Par.size {t : Tre} {p s : ByteArray} {ld : List ByteArray} {d : Nat} (h : Par t p ld d s) : s.size ≤ 8 := (mayB_size h.sole).2
theorem Par.d12 {t : Tre} {p s : ByteArray} {ld : List ByteArray} {d : Nat} (h : Par t p ld d s) : d < 12 := goF_range (mayT_all h.may).1 (mayT_node h.may) (by omega) h.go
theorem Par.mayL {t : Tre} {p s : ByteArray} {ld : List ByteArray} {d : Nat} (h : Par t p ld d s) : mayL (entsT t d) = true := mayN_ents ((mayF h.may).at h.d12)
theorem Par.find {t : Tre} {p s : ByteArray} {ld : List ByteArray} {d : Nat} (h : Par t p ld d s) : findT t p = goF t 0 (ld ++ [s]) := find_of h.may h.split
theorem Par.at {t : Tre} {p s : ByteArray} {ld : List ByteArray} {d : Nat} (h : Par t p ld d s) : atI (entsT t d) s = -1 ∨ (1 ≤ atI (entsT t d) s ∧ atI (entsT t d) s < 12) := atI_range (mayT_node h.may _ (getD_mem (by rw [(mayT_all h.may).1]; exact h.d12)))
theorem mayL_pos {l : List Ent} (h : mayL l = true) : ∀ e ∈ l, 0 ≤ e.node := fun e he => by have := mayL_node h he; omega
end Go.Proofs.YtdlgpolngnkiaaaGreatDoor

/- Contracts of calls on names: rows of entries, names that enter and leave. -/
namespace Go.Proofs.YtdlgpolngnkiaaaGreatDoor
open Go
theorem grow_ok {V : View} {a : Int} (h0 : 0 ≤ a) (h1 : a ≤ 100000) : CallV Tryz.prog 117 ⟨[.slice none 0 0, .int .i64 a]⟩ V fun r V' => ∃ x : Sl, r = .slice x.a x.n x.c ∧ Buf V' x 58 2 [] ∧ V.Le (V'.minus x) := by
  refine f117_x (a0 := ⟨none, 0, 0⟩) ?_
  unfold f117_n
  refine joinP_cut (fun _ V' => V' = V) (br_intro (fun h => absurd (of_decide_eq_true h) (by omega)) (fun _ => rfl)) ?_
  rintro ⟨⟩ V1 rfl
  refine ⟨inI64 (by show -9223372036854775808 ≤ (0 : Int) - 0; omega) (by show (0 : Int) - 0 ≤ _; omega), inI64 (by show -9223372036854775808 ≤ a - ((0 : Int) - 0); omega) (by show a - ((0 : Int) - 0) ≤ _; omega), ?_⟩
  refine joinP_cut (fun s V' => Buf V' s.1 58 2 [] ∧ V1.Le (V'.minus s.1)) (br_intro (fun hp => ?_) (fun _ => ⟨Buf.nil _ _ _, View.Le.refl _⟩)) ?_
  · refine ⟨Int.le_refl _, Int.le_refl _, Int.le_refl _, ?_⟩
    refine apV_buf (cs := []) (src := (List.replicate a.toNat [.string (ba []), .int .i64 0]).flatten) (m := a.toNat) (x := ⟨none, 0, 0⟩) rfl (Buf.nil _ _ _) ⟨?_, ?_, ?_⟩ ?_ ?_ ?_ ?_ ?_
    · show 0 ≤ a - ((0 : Int) - 0); omega
    · show a.toNat = (a - ((0 : Int) - 0)).toNat; congr 1; omega
    · rfl
    · rw [List.length_flatten, List.map_replicate, List.sum_replicate_nat]; simp
    · rw [List.all_flatten, List.all_eq_true]
      intro l hl
      rw [List.eq_of_mem_replicate hl]; rfl
    · show (0 + a.toNat) * 24 ≤ _; omega
    · show 0 + a.toNat ≤ _; omega
    · intro s V2 hb hn hle
      have hcut := hb.cut (k := 0) (Nat.zero_le _)
      refine ⟨Int.le_refl _, Int.le_refl _, by show (0 : Int) ≤ s.c; omega, ?_⟩
      have e : (⟨if s.c = 0 then s.a else s.a.map fun q => q.add 0, (0 : Int).toNat - 0, s.c - 0⟩ : Sl) = ⟨s.a, 0, s.c⟩ := by
        rw [map_add_zero]; split <;> rfl
      show Buf V2 ⟨if s.c = 0 then s.a else s.a.map fun q => q.add 0, (0 : Int).toNat - 0, s.c - 0⟩ _ _ _ ∧ V1.Le (V2.minus ⟨if s.c = 0 then s.a else s.a.map fun q => q.add 0, (0 : Int).toNat - 0, s.c - 0⟩)
      rw [e]
      exact ⟨by simpa using hcut, hle⟩
  · rintro ⟨s, ⟨⟩⟩ V2 ⟨g1, g2⟩
    exact ⟨s, rfl, g1, g2⟩
theorem SlR.slN {α : Type} [Rep α] {V : View} {s : Sl} {ls : List (List α)} (h : SlR V s ls) {i : Nat} (hi : i < ls.length) : ∃ ad y, s.a = some ad ∧ V.cell? (ad.add (((i : Int)).toNat * 1)) = some (.slice y.a y.n y.c) ∧ SlR V y ls[i] := by
  have hn := h.n
  obtain ⟨ad, vs, hx, ha, hc, y, rfl, hy⟩ := h.ld (x := (i : Int)) (by omega) (by omega)
  exact ⟨ad, y, ha, cellsAt_one.1 hc, hy⟩
theorem flat_take {α : Type} {ls : List (List α)} {i : Nat} (hi : i < ls.length) : (ls.take (i + 1)).flatten = (ls.take i).flatten ++ ls[i] := by
  rw [List.take_add_one, List.getElem?_eq_getElem hi, List.flatten_append]; simp
theorem flatten_len {α : Type} : ∀ {ls : List (List α)}, ∀ i, (ls.take i).flatten.length ≤ ls.flatten.length
  | [], i => by simp
  | l :: ls, 0 => by simp
  | l :: ls, i + 1 => by
    have := flatten_len (ls := ls) i
    simp only [List.take_succ_cons, List.flatten_cons, List.length_append]; omega
theorem concat_ok {V : View} {s : Sl} {ls : List (List Ent)} (h : SlR V s ls) (hl : ls.flatten.length ≤ 1000) : CallV Tryz.prog 105 ⟨[.slice s.a s.n s.c]⟩ V fun r V' => ∃ x : Sl, r = .slice x.a x.n x.c ∧ SlR V' x ls.flatten ∧ V.Le V' := by
  refine f105_x ?_
  unfold f105_n
  have hn := h.n; have hlim := h.lim
  refine loop2 (k := .int .i64) (l := .int .i64) (fun (x j : Int) V' => V' = V ∧ ∃ i : Nat, j = i ∧ i ≤ ls.length ∧ x = ((ls.take i).flatten.length : Nat)) (fun _ (j : Int) _ => ls.length - j.toNat) ⟨rfl, 0, rfl, by omega, by simp⟩ ?_
  rintro (x : Int) (j : Int) V1 ⟨rfl, i, rfl, hi, rfl⟩
  refine br_intro (fun hlt => ?_) (fun hge => ?_)
  · have hlt : i < ls.length := by have := of_decide_eq_true hlt; omega
    obtain ⟨ad, y, ha, hc, hy⟩ := h.slN hlt
    have hf := flat_take hlt
    have h1 := flatten_len (ls := ls) (i + 1)
    have hyn := hy.n
    have hf2 := congrArg List.length hf
    rw [List.length_append] at hf2
    refine ⟨by omega, by omega, ad, ha, y, hc, inI64 (by omega) (by omega), joinP_cut (fun _ V' => V' = V1) (br_intro (fun hb => absurd (of_decide_eq_true hb) (by omega)) (fun _ => rfl)) ?_⟩
    rintro ⟨⟩ V2 rfl
    exact ⟨inI64 (by omega) (by omega), ⟨rfl, i + 1, by omega, by omega, by omega⟩, by omega⟩
  · have hge : i = ls.length := by have := of_decide_eq_false hge; omega
    subst hge
    rw [List.take_length]
    refine (grow_ok (by omega) (by omega)).mono ?_
    rintro r V2 ⟨x, rfl, hb, hle⟩
    refine ⟨x, rfl, loop2 (k := .sl) (l := .int .i64) (fun (x : Sl) (j : Int) V' => ∃ i : Nat, j = i ∧ i ≤ ls.length ∧ ∃ cs, Buf V' x 58 (Rep.sz Ent) cs ∧ repL (V'.minus x) cs (ls.take i).flatten ∧ V1.Le (V'.minus x)) (fun _ (j : Int) _ => ls.length - j.toNat) ⟨0, rfl, by omega, [], hb, rfl, hle⟩ ?_⟩
    rintro (x : Sl) (j : Int) V3 ⟨i, rfl, hi, cs, hb3, hr3, hle3⟩
    refine br_intro (fun hlt => ?_) (fun hge => ?_)
    · have hlt : i < ls.length := by have := of_decide_eq_true hlt; omega
      obtain ⟨ad, y, ha, hc, hy⟩ := (h.mono hle3).slN hlt
      have hf := flat_take hlt
      have h1 := flatten_len (ls := ls) (i + 1)
      have hf2 := congrArg List.length hf
      rw [List.length_append] at hf2
      refine ⟨by omega, by omega, ad, ha, y, (View.minus_le _ _).cell hc, ?_⟩
      refine appRow (α := Ent) rfl hb3 hr3 hy hle3 (by omega) (by omega) fun s V4 cs4 g1 g2 g3 => ⟨inI64 (by omega) (by omega), ⟨i + 1, by omega, by omega, cs4, g1, by rw [hf]; exact g2, g3⟩, by omega⟩
    · have hge : i = ls.length := by have := of_decide_eq_false hge; omega
      subst hge
      rw [List.take_length] at hr3
      exact ⟨x, rfl, hb3.slR hr3 (View.minus_le _ _), hle3.trans (View.minus_le _ _)⟩
/-- What a With or a Without tells. -/
def outE (V : View) (r : Value) (o : Except Int (List Ent)) : Prop := ∃ (x : Sl) (e : Int), r = .tuple ⟨[.slice x.a x.n x.c, .int .i64 e]⟩ ∧ (match o with
  | .ok l => e = 0 ∧ SlR V x l
  | .error c => e = c ∧ SlR (α := Ent) V x [])
theorem tw_split {l : List Ent} {s : ByteArray} {i : Nat} (h1 : ∀ e ∈ l.take i, sLess e.name s = true) (h2 : ∀ hi : i < l.length, sLess l[i].name s = false) : l.takeWhile (fun e => sLess e.name s) = l.take i ∧ l.dropWhile (fun e => sLess e.name s) = l.drop i := by
  induction l generalizing i with
  | nil => simp
  | cons e l ih =>
    cases i with
    | zero =>
      have := h2 (by simp)
      have : sLess e.name s = false := this
      rw [List.takeWhile_cons, List.dropWhile_cons, this]; exact ⟨rfl, rfl⟩
    | succ i =>
      have he : sLess e.name s = true := h1 e (by simp)
      obtain ⟨a, b⟩ := ih (i := i) (fun x hx => h1 x (by simp [hx])) (fun hi => h2 (by simpa using hi))
      rw [List.takeWhile_cons, List.dropWhile_cons, he]
      exact ⟨by simp [a], by simp [b]⟩
theorem with_ok {V : View} {x : Sl} {l : List Ent} {s : ByteArray} {i : Int} (h : SlR V x l) (hs : s.size ≤ 9223372036854775807) (hi : inI .i64 i) : CallV Tryz.prog 80 ⟨[.slice x.a x.n x.c, .string s, .int .i64 i]⟩ V fun r V' => outE V' r (withE l ⟨s, i⟩) ∧ V.Le V' := by
  refine f80_x ?_
  unfold f80_n
  have hn := h.n; have hc := h.c
  intro _
  refine joinP_cut (fun q V' => V' = V ∧ q.1 = !(mayL l && soleE ⟨s, i⟩)) ((mayL_ok h).mono ?_) ?_
  · rintro r V1 ⟨rfl, rfl⟩
    refine ⟨_, rfl, br_intro (fun hb => ⟨rfl, by rw [not_t hb]; rfl⟩) (fun hb => (sole_ok (x := ⟨s, i⟩) hs).mono ?_)⟩
    rintro r V2 ⟨rfl, rfl⟩
    exact ⟨_, rfl, rfl, by rw [not_f hb]; rfl⟩
  rintro ⟨q, ⟨⟩⟩ V1 ⟨rfl, hq⟩
  dsimp only [unc] at *
  unfold withE
  refine br_intro (fun hb => ?_) (fun hb => ?_)
  · rw [hq] at hb
    rw [if_neg (by rw [not_t hb]; decide)]
    exact ⟨⟨⟨none, 0, 0⟩, 1, rfl, rfl, SlR.nil _ _ _⟩, View.Le.refl _⟩
  have hM : (mayL l && soleE ⟨s, i⟩) = true := by rw [hq] at hb; exact not_f hb
  have hM1 : mayL l = true := by rw [Bool.and_eq_true] at hM; exact hM.1
  have hlen := mayL_len hM1
  rw [if_pos hM]
  refine (place_ok h).mono ?_
  rintro r V2 ⟨rfl, hV2⟩
  refine ⟨_, rfl, ?_⟩
  rw [idx_has]
  refine br_intro (fun hb => ?_) (fun hb => ?_)
  · rw [if_pos hb]
    exact ⟨⟨⟨none, 0, 0⟩, 9, rfl, rfl, SlR.nil _ _ _⟩, hV2⟩
  rw [if_neg (by rw [hb]; decide)]
  refine br_intro (fun hb => ?_) (fun hb => ?_)
  · rw [if_pos (show 10 ≤ l.length by have := of_decide_eq_true hb; omega)]
    exact ⟨⟨⟨none, 0, 0⟩, 14, rfl, rfl, SlR.nil _ _ _⟩, hV2⟩
  rw [if_neg (show ¬ 10 ≤ l.length by have := of_decide_eq_false hb; omega)]
  refine loop1 (k := .int .i64) (fun (y : Int) V' => V' = V2 ∧ 0 ≤ y ∧ y ≤ l.length ∧ ∀ e ∈ l.take y.toNat, sLess e.name s = true) (fun (y : Int) _ => l.length - y.toNat) ⟨rfl, by omega, by omega, by simp⟩ ?_
  rintro (y : Int) V3 ⟨rfl, h0, h1, h2⟩
  refine joinP_cut (fun q V' => V' = V3 ∧ ((q.1 = true ∧ ∃ hx : y.toNat < l.length, sLess l[y.toNat].name s = true) ∨ (q.1 = false ∧ ∀ hx : y.toNat < l.length, sLess l[y.toNat].name s = false))) (br_intro (fun hlt => ?_) (fun hge => ?_)) ?_
  · have hlt : y < x.n := by simpa using hlt
    obtain ⟨ad, hx, ha, hcc, _⟩ := (h.mono hV2).ent h0 hlt
    refine ⟨h0, hlt, ad, ha, l[y.toNat].name, hcc 0 _ rfl, rfl, ?_⟩
    · cases hq : sLess l[y.toNat].name s with
      | true => exact .inl ⟨rfl, hx, hq⟩
      | false => exact .inr ⟨rfl, fun _ => hq⟩
  · have hge : ¬ y < x.n := by simpa using hge
    exact ⟨rfl, .inr ⟨rfl, fun hx => by omega⟩⟩
  · rintro ⟨q, ⟨⟩⟩ V4 ⟨rfl, hJ⟩
    dsimp only [unc] at *
    refine br_intro (fun hq => ?_) (fun hq => ?_)
    · subst hq
      rcases hJ with ⟨_, hx, hl⟩ | ⟨hf, _⟩
      · refine ⟨inI64 (by omega) (by omega), ⟨rfl, by omega, by omega, ?_⟩, by omega⟩
        rw [show (y + 1).toNat = y.toNat + 1 by omega, List.take_add_one, List.getElem?_eq_getElem hx]
        intro p hp
        rcases List.mem_append.1 hp with hp | hp
        · exact h2 p hp
        · simp at hp; rw [hp]; exact hl
      · cases hf
    · subst hq
      have hl : ∀ hx : y.toNat < l.length, sLess l[y.toNat].name s = false := by
        rcases hJ with ⟨hf, _⟩ | ⟨_, h6⟩
        · cases hf
        · exact h6
      obtain ⟨e1, e2⟩ := tw_split h2 hl
      have h4 := h.mono hV2
      refine ⟨trivial, Int.le_refl _, h0, by omega, h0, by omega, by omega, fun r hr => ?_⟩
      intro r2 hr2
      have f1 := View.see_none_of_ge hr
      have f2 := View.see_none_of_ge hr2
      have p1 := View.put_le (o := .cells ⟨[.string s, .int .i64 i]⟩ 58 (0, 0)) f1
      have hne : r ≠ r2 := by
        rintro rfl
        have : r < (V4.put r (.cells ⟨[.string s, .int .i64 i]⟩ 58 (0, 0))).size := Nat.lt_of_lt_of_le (Nat.lt_succ_self _) (Nat.le_max_right _ _)
        have hr2' : (V4.put r (.cells ⟨[.string s, .int .i64 i]⟩ 58 (0, 0))).size ≤ r := hr2
        omega
      have s1 := h4.sub (i := 0) (j := y.toNat) (Nat.zero_le _) (by omega)
      have s2 : SlR (V4.put r (.cells ⟨[.string s, .int .i64 i]⟩ 58 (0, 0))) ⟨some ⟨r, 0, none⟩, 1, 1⟩ [(⟨s, i⟩ : Ent)] :=
        slR_block (l := [(⟨s, i⟩ : Ent)]) (W := V4) (View.see_put_same _ _ _) ⟨[.string s, .int .i64 i], [], rfl, ⟨rfl, hs, hi⟩, rfl⟩ p1 (show 1 ≤ 140737488355328 by decide)
      have s3 := h4.sub (i := y.toNat) (j := l.length) (by omega) (Nat.le_refl _)
      rw [List.take_length] at s3
      rw [List.drop_zero] at s1
      have p2 := View.put_le (o := .cells ⟨[.slice (if x.c = 0 then x.a else x.a.map fun q => q.add 0) (y.toNat - 0) (x.c - 0), .slice (some ⟨r, 0, none⟩) 1 1, .slice (if x.c = y.toNat then x.a else x.a.map fun q => q.add (y.toNat * 2)) ((x.n : Int).toNat - y.toNat) (x.c - y.toNat)]⟩ 44 (0, 0)) f2
      have hall : SlR (V4.put r (.cells ⟨[.string s, .int .i64 i]⟩ 58 (0, 0)) |>.put r2 (.cells ⟨[.slice (if x.c = 0 then x.a else x.a.map fun q => q.add 0) (y.toNat - 0) (x.c - 0), .slice (some ⟨r, 0, none⟩) 1 1, .slice (if x.c = y.toNat then x.a else x.a.map fun q => q.add (y.toNat * 2)) ((x.n : Int).toNat - y.toNat) (x.c - y.toNat)]⟩ 44 (0, 0))) ⟨some ⟨r2, 0, none⟩, 3, 3⟩ [l.take y.toNat, [(⟨s, i⟩ : Ent)], l.drop y.toNat] := by
        refine slR_block (l := [l.take y.toNat, [(⟨s, i⟩ : Ent)], l.drop y.toNat]) (View.see_put_same _ _ _) (W := V4.put r (.cells ⟨[.string s, .int .i64 i]⟩ 58 (0, 0))) ?_ p2 (show 3 ≤ 140737488355328 by decide)
        refine ⟨[_], [_, _], rfl, ⟨_, rfl, s1.mono p1⟩, [_], [_], rfl, ⟨_, rfl, s2⟩, [_], [], rfl, ⟨⟨if x.c = y.toNat then x.a else x.a.map fun q => q.add (y.toNat * 2), (x.n : Int).toNat - y.toNat, x.c - y.toNat⟩, rfl, ?_⟩, rfl⟩
        rw [show (x.n : Int).toNat = l.length by omega]
        exact s3.mono p1
      have ef : insE l ⟨s, i⟩ = [l.take y.toNat, [(⟨s, i⟩ : Ent)], l.drop y.toNat].flatten := by
        unfold insE
        dsimp only
        rw [e1, e2]; simp
      refine (concat_ok hall (by rw [← ef]; unfold insE; dsimp only; rw [e1, e2]; simp; omega)).mono ?_
      rintro r3 V5 ⟨z, rfl, hz, hV5⟩
      refine ⟨z, rfl, ⟨z, 0, rfl, rfl, by rw [ef]; exact hz⟩, (hV2.trans p1).trans (p2.trans hV5)⟩
theorem without_ok {V : View} {x : Sl} {l : List Ent} {s : ByteArray} (h : SlR V x l) : CallV Tryz.prog 81 ⟨[.slice x.a x.n x.c, .string s]⟩ V fun r V' => outE V' r (withoutE l s) ∧ V.Le V' := by
  refine f81_x ?_
  unfold f81_n
  have hn := h.n; have hc := h.c
  refine (mayL_ok h).mono ?_
  rintro r V1 ⟨rfl, rfl⟩
  unfold withoutE
  refine ⟨_, rfl, br_intro (fun hb => ?_) (fun hb => ?_)⟩
  · rw [if_neg (by rw [not_t hb]; decide)]
    exact ⟨⟨⟨none, 0, 0⟩, 1, rfl, rfl, SlR.nil _ _ _⟩, View.Le.refl _⟩
  have hM := not_f hb
  have hlen := mayL_len hM
  rw [if_pos hM]
  refine (place_ok h).mono ?_
  rintro r V2 ⟨rfl, hV2⟩
  have hi := idx_has l s
  have hidx := idxI_find (fun e : Ent => decide (e.name = s)) l
  generalize hx : idxI (fun e : Ent => decide (e.name = s)) l = y at *
  refine ⟨_, rfl, br_intro (fun hb => ?_) (fun hb => ?_)⟩
  · rw [decide_eq_false (by have := of_decide_eq_true hb; omega)] at hi
    rw [if_neg (by rw [← hi]; decide)]
    exact ⟨⟨⟨none, 0, 0⟩, 8, rfl, rfl, SlR.nil _ _ _⟩, hV2⟩
  · have hb := of_decide_eq_false hb
    rw [decide_eq_true (by omega)] at hi
    rw [if_pos hi.symm]
    obtain ⟨k, hk, rfl, hf⟩ : ∃ i, ∃ h : i < l.length, y = (i : Int) ∧ l.find? (fun e => decide (e.name = s)) = some l[i] := by
      rcases hidx with ⟨h1, _⟩ | h1
      · omega
      · exact h1
    have hname : l[k].name = s := by simpa using List.find?_some hf
    have ecut := cut_erase hk (mayL_pair hM) hname
    refine ⟨trivial, Int.le_refl _, by omega, by omega, inI64 (by omega) (by omega), by omega, by omega, by omega, fun r hr => ?_⟩
    have f1 := View.see_none_of_ge hr
    have h4 := h.mono hV2
    have s1 := h4.sub (i := 0) (j := k) (Nat.zero_le _) (by omega)
    have s3 := h4.sub (i := k + 1) (j := l.length) (by omega) (Nat.le_refl _)
    rw [List.take_length] at s3
    rw [List.drop_zero] at s1
    have e1 : ((k : Int) + 1).toNat = k + 1 := by omega
    have e2 : ((k : Int)).toNat = k := by omega
    have e3 : (x.n : Int).toNat = l.length := by omega
    rw [e1, e2, e3]
    have p2 := View.put_le (o := .cells ⟨[.slice (if x.c = 0 then x.a else x.a.map fun q => q.add 0) (k - 0) (x.c - 0), .slice (if x.c = k + 1 then x.a else x.a.map fun q => q.add ((k + 1) * 2)) (l.length - (k + 1)) (x.c - (k + 1))]⟩ 44 (0, 0)) f1
    have hall : SlR (V2.put r (.cells ⟨[.slice (if x.c = 0 then x.a else x.a.map fun q => q.add 0) (k - 0) (x.c - 0), .slice (if x.c = k + 1 then x.a else x.a.map fun q => q.add ((k + 1) * 2)) (l.length - (k + 1)) (x.c - (k + 1))]⟩ 44 (0, 0))) ⟨some ⟨r, 0, none⟩, 2, 2⟩ [l.take k, l.drop (k + 1)] := by
      refine slR_block (l := [l.take k, l.drop (k + 1)]) (View.see_put_same _ _ _) (W := V2) ?_ p2 (show 2 ≤ 140737488355328 by decide)
      exact ⟨[_], [_], rfl, ⟨_, rfl, s1⟩, [_], [], rfl, ⟨_, rfl, s3⟩, rfl⟩
    have ef : cutE l s = [l.take k, l.drop (k + 1)].flatten := by rw [ecut]; simp
    refine (concat_ok hall (by rw [← ef]; have := cut_len l s; omega)).mono ?_
    rintro r3 V5 ⟨z, rfl, hz, hV5⟩
    exact ⟨z, rfl, ⟨z, 0, rfl, rfl, by rw [ef]; exact hz⟩, hV2.trans (p2.trans hV5)⟩
end Go.Proofs.YtdlgpolngnkiaaaGreatDoor

/- Rows of entries: one more, one less. No program in this text. -/
namespace Go.Proofs.YtdlgpolngnkiaaaGreatDoor
open Go
theorem sLess_tot {a b : ByteArray} (h : sLess a b = false) (hne : a ≠ b) : sLess b a = true := by
  have := bytesLess_tri a.data.toList b.data.toList
  unfold sLess at h ⊢
  rw [h] at this
  have hb : (a.data.toList == b.data.toList) = false := by
    rw [beq_eq_false_iff_ne]
    intro e; exact hne (bl_inj e)
  rw [hb] at this
  cases hq : Op.bytesLess b.data.toList a.data.toList with
  | true => rfl
  | false => rw [hq] at this; cases this
theorem mayL_iff {l : List Ent} : mayL l = true ↔ (∀ e ∈ l, soleE e = true) ∧ (l.Pairwise fun a b => sLess a.name b.name = true) ∧ l.length ≤ 10 := by
  constructor
  · intro h
    refine ⟨fun e he => ?_, ?_, mayL_len h⟩
    · have := mayL_node h he
      unfold soleE
      rw [this.2.2, decide_eq_true this.1, decide_eq_true this.2.1]; rfl
    · rw [List.pairwise_iff_getElem]
      intro i j hi hj hij
      have := mayL_less h (j - i - 1) i (by omega)
      rw [show i + (j - i - 1) + 1 = j by omega, getD_at hi, getD_at hj] at this
      exact this
  · rintro ⟨h1, h2, h3⟩
    unfold mayL
    rw [decide_eq_true h3, Bool.and_true, List.all_eq_true]
    intro i hi
    have hi := List.mem_range.1 hi
    unfold okE
    rw [getD_at hi, h1 _ (List.getElem_mem hi), Bool.true_and, Bool.or_eq_true, decide_eq_true_eq]
    by_cases h0 : i = 0
    · exact .inl h0
    · right
      rw [getD_at (by omega)]
      exact List.pairwise_iff_getElem.1 h2 (i - 1) i (by omega) hi (by omega)
theorem mayL_cut {l : List Ent} (h : mayL l = true) (s : ByteArray) : mayL (cutE l s) = true := by
  obtain ⟨h1, h2, h3⟩ := mayL_iff.1 h
  exact mayL_iff.2 ⟨fun e he => h1 e (cut_mem.1 he).1, h2.sublist List.filter_sublist, Nat.le_trans (cut_len l s) h3⟩
theorem ins_mem {l : List Ent} {x e : Ent} : e ∈ insE l x ↔ e = x ∨ e ∈ l := by
  unfold insE
  rw [List.mem_append, List.mem_cons]
  have : e ∈ l ↔ e ∈ l.takeWhile (fun e => sLess e.name x.name) ∨ e ∈ l.dropWhile (fun e => sLess e.name x.name) := by
    rw [← List.mem_append, List.takeWhile_append_dropWhile]
  rw [this]
  constructor
  · rintro (h | h | h)
    · exact .inr (.inl h)
    · exact .inl h
    · exact .inr (.inr h)
  · rintro (h | h | h)
    · exact .inr (.inl h)
    · exact .inl h
    · exact .inr (.inr h)
theorem ins_perm (l : List Ent) (x : Ent) : (insE l x).Perm (x :: l) := by
  unfold insE
  refine List.perm_middle.trans ?_
  rw [List.takeWhile_append_dropWhile]
theorem ins_len (l : List Ent) (x : Ent) : (insE l x).length = l.length + 1 := by
  rw [(ins_perm l x).length_eq]; rfl
theorem mem_takeW {α : Type} {p : α → Bool} : ∀ {l : List α} {a : α}, a ∈ l.takeWhile p → p a = true ∧ a ∈ l
  | [], _, h => by cases h
  | x :: l, a, h => by
    rw [List.takeWhile_cons] at h
    split at h
    · rename_i hx
      rcases List.mem_cons.1 h with rfl | h
      · exact ⟨hx, by simp⟩
      · have := mem_takeW h; exact ⟨this.1, by simp [this.2]⟩
    · cases h
theorem mayL_ins {l : List Ent} {x : Ent} (h : mayL l = true) (hx : soleE x = true) (hn : hasE l x.name = false) (hl : l.length < 10) : mayL (insE l x) = true := by
  obtain ⟨h1, h2, h3⟩ := mayL_iff.1 h
  refine mayL_iff.2 ⟨fun e he => ?_, ?_, by rw [ins_len]; omega⟩
  · rcases ins_mem.1 he with rfl | he
    · exact hx
    · exact h1 e he
  · have hn := has_false.1 hn
    have hd : ∀ e ∈ l.dropWhile (fun e => sLess e.name x.name), sLess x.name e.name = true := by
      have key : ∀ m : List Ent, (m.Pairwise fun a b => sLess a.name b.name = true) → (∀ e ∈ m, e.name ≠ x.name) → ∀ e ∈ m.dropWhile (fun e => sLess e.name x.name), sLess x.name e.name = true := by
        intro m
        induction m with
        | nil => intro _ _ e he; cases he
        | cons y m ih =>
          intro hp hne e he
          rw [List.pairwise_cons] at hp
          rw [List.dropWhile_cons] at he
          split at he
          · exact ih hp.2 (fun e he => hne e (by simp [he])) e he
          · rename_i hy
            have hy : sLess y.name x.name = false := by simpa using hy
            have hxy := sLess_tot hy (hne y (by simp))
            rcases List.mem_cons.1 he with rfl | he
            · exact hxy
            · exact sLess_trans hxy (hp.1 e he)
      exact key l h2 hn
    unfold insE
    have hsp : (l.takeWhile (fun e => sLess e.name x.name) ++ l.dropWhile (fun e => sLess e.name x.name)).Pairwise fun a b => sLess a.name b.name = true := by
      rw [List.takeWhile_append_dropWhile]; exact h2
    rw [List.pairwise_append] at hsp
    rw [List.pairwise_append]
    refine ⟨hsp.1, ?_, fun a ha b hb => ?_⟩
    · rw [List.pairwise_cons]; exact ⟨hd, hsp.2.1⟩
    · rcases List.mem_cons.1 hb with rfl | hb
      · exact (mem_takeW ha).1
      · exact hsp.2.2 a ha b hb
/-- One more, and it is taken away again. -/
theorem cut_ins {l : List Ent} {x : Ent} (hn : hasE l x.name = false) : cutE (insE l x) x.name = l := by
  have h1 : ∀ m : List Ent, (∀ e ∈ m, e ∈ l) → cutE m x.name = m := fun m hm => cut_none (has_false.2 fun e he => has_false.1 hn e (hm e he))
  unfold insE
  unfold cutE
  rw [List.filter_append, List.filter_cons_of_neg (by simp)]
  have e1 := h1 (l.takeWhile (fun e => sLess e.name x.name)) fun e he => (mem_takeW he).2
  have e2 := h1 (l.dropWhile (fun e => sLess e.name x.name)) fun e he => (List.dropWhile_sublist _).subset he
  unfold cutE at e1 e2
  rw [e1, e2, List.takeWhile_append_dropWhile]
/-- One is taken away, and put back again. -/
theorem ins_cut {l : List Ent} {x : Ent} (h : mayL l = true) (hx : x ∈ l) : insE (cutE l x.name) x = l := by
  obtain ⟨_, h2, _⟩ := mayL_iff.1 h
  obtain ⟨a, b, rfl⟩ := List.append_of_mem hx
  have hp := List.pairwise_append.1 h2
  have hpb := List.pairwise_cons.1 hp.2.1
  have ha : ∀ e ∈ a, sLess e.name x.name = true := fun e he => hp.2.2 e he x (by simp)
  have hb : ∀ e ∈ b, sLess x.name e.name = true := hpb.1
  have ne1 : ∀ e ∈ a, e.name ≠ x.name := fun e he q => by have := ha e he; rw [q, sLess_irr] at this; cases this
  have ne2 : ∀ e ∈ b, e.name ≠ x.name := fun e he q => by have := hb e he; rw [q, sLess_irr] at this; cases this
  have hc : cutE (a ++ x :: b) x.name = a ++ b := by
    unfold cutE
    rw [List.filter_append, List.filter_cons_of_neg (by simp)]
    congr 1
    · rw [List.filter_eq_self]; intro e he; simp [ne1 e he]
    · rw [List.filter_eq_self]; intro e he; simp [ne2 e he]
  have hnb : ∀ e ∈ b, sLess e.name x.name = false := fun e he => by
    cases hq : sLess e.name x.name with
    | false => rfl
    | true => have := sLess_trans hq (hb e he); rw [sLess_irr] at this; cases this
  rw [hc]
  unfold insE
  have t1 : (a ++ b).takeWhile (fun e => sLess e.name x.name) = a := by
    rw [List.takeWhile_append_of_pos (fun e he => ha e he)]
    cases b with
    | nil => simp
    | cons y b => rw [List.takeWhile_cons, hnb y (by simp)]; simp
  have t2 : (a ++ b).dropWhile (fun e => sLess e.name x.name) = b := by
    rw [List.dropWhile_append_of_pos (fun e he => ha e he)]
    cases b with
    | nil => simp
    | cons y b => rw [List.dropWhile_cons, hnb y (by simp)]; simp
  rw [t1, t2]
theorem cut_mayL_len {l : List Ent} {s : ByteArray} (h : mayL l = true) (hs : hasE l s = true) : (cutE l s).length + 1 = l.length := by
  obtain ⟨x, hx, rfl⟩ := has_true.1 hs
  rw [← ins_len, ins_cut h hx]
theorem with_ok_of {l : List Ent} {x : Ent} (h : mayL l = true) (hx : soleE x = true) : withE l x = if hasE l x.name = true then .error 9 else if 10 ≤ l.length then .error 14 else .ok (insE l x) := by
  unfold withE; rw [h, hx]; rfl
theorem without_ok_of {l : List Ent} {s : ByteArray} (h : mayL l = true) (hs : hasE l s = true) : withoutE l s = .ok (cutE l s) := by
  unfold withoutE; rw [if_pos h, if_pos hs]
end Go.Proofs.YtdlgpolngnkiaaaGreatDoor

/- Contracts of calls on names: a tree of one's own behind a pointer. -/
namespace Go.Proofs.YtdlgpolngnkiaaaGreatDoor
open Go
/-- A call that needs nothing of a row of one's own, and only adds to what it needs. -/
theorem CallV.besideG {P : Program} {f : FuncId} {args : Array Value} {V : View} {x : Sl} {e : TypeId} {sz : Nat} {cs : List Value} {K : Value → View → Prop} (hb : Buf V x e sz cs) (h : CallV P f args (V.minus x) fun r U' => K r U' ∧ (V.minus x).Le U') :
    CallV P f args V fun r V' => ∃ U', K r U' ∧ (V.minus x).Le U' ∧ U'.Le (V'.minus x) ∧ V.Le V' := by
  rcases hb.own with ⟨ha, _⟩ | ⟨b, all, ha, hs, _⟩
  · have e1 : ∀ W : View, W.minus x = W := fun W => by unfold View.minus; rw [ha]
    rw [e1] at h
    refine h.mono fun r V' hk => ⟨V', hk.1, by rw [e1]; exact hk.2, by rw [e1]; exact View.Le.refl _, hk.2⟩
  · have e1 : ∀ W : View, W.minus x = W.hide b := fun W => by unfold View.minus; rw [ha]
    rw [e1] at h
    refine (CallV.frameG (View.hide_le V b) h).mono ?_
    rintro r V' ⟨U', hk, h1, h2, h3, h4⟩
    have h5 := h4 b _ (by simp [View.hide]) hs
    refine ⟨U', hk, by rw [e1]; exact h1, ?_, h3⟩
    rw [e1]
    refine ⟨h2.size, fun i o ho => ?_, h2.out⟩
    have hne : i ≠ b := fun e => by rw [e, h5] at ho; cases ho
    rw [hide_see, if_neg hne]; exact h2.see i o ho
/-- A tree of one's own, and the box that holds it. -/
structure BoxT (V0 V : View) (b : Nat) (x : Sl) (t : Tre) : Prop where
  own : OwnT V0 V x t
  box : (V.minus x).see b = some (.cells ⟨[.slice x.a x.n x.c]⟩ 24 (0, 0))
theorem BoxT.mono {V0 V V' : View} {b : Nat} {x : Sl} {t : Tre} (h : BoxT V0 V b x t) (hV : V.Le V') : BoxT V0 V' b x t := ⟨h.own.mono hV, (minus_mono hV x).see _ _ h.box⟩
theorem BoxT.cell {V0 V : View} {b : Nat} {x : Sl} {t : Tre} (h : BoxT V0 V b x t) : V.cell? ((⟨b, 0, none⟩ : Addr).add 0) = some (.slice x.a x.n x.c) := by
  rw [Addr.add_zero]; exact cell_of_see ((View.minus_le _ _).see _ _ h.box) rfl
theorem BoxT.cell0 {V0 V : View} {b : Nat} {x : Sl} {t : Tre} (h : BoxT V0 V b x t) : V.cell? (⟨b, 0, none⟩ : Addr) = some (.slice x.a x.n x.c) := cell_of_see ((View.minus_le _ _).see _ _ h.box) rfl
theorem BoxT.cells {V0 V : View} {b : Nat} {x : Sl} {t : Tre} (h : BoxT V0 V b x t) : cellsAt V (⟨b, 0, none⟩ : Addr) [.slice x.a x.n x.c] := cellsAt_one.2 h.cell0
theorem OwnT.n {V0 V : View} {x : Sl} {t : Tre} (h : OwnT V0 V x t) : x.n = t.length := h.slR.n
theorem box_new {V0 V : View} {x : Sl} {t : Tre} {b : Nat} (h : OwnT V0 V x t) (hb : V.see b = none) :
    canSet (V.put b (.cells ⟨[.slice none 0 0]⟩ 24 (0, 0))) ⟨b, 0, none⟩ 1 ∧ BoxT V0 ((V.put b (.cells ⟨[.slice none 0 0]⟩ 24 (0, 0))).sets ⟨b, 0, none⟩ [.slice x.a x.n x.c]) b x t := by
  refine ⟨canSet_of (View.see_put_same _ _ _) (by simp), ?_⟩
  rw [sets_see (View.see_put_same _ _ _)]
  have hle : V.Le ((V.put b (.cells ⟨[.slice none 0 0]⟩ 24 (0, 0))).put b (.cells ⟨putL [.slice none 0 0] 0 [.slice x.a x.n x.c]⟩ 24 (0, 0))) :=
    ⟨Nat.le_trans (Nat.le_max_left _ _) (Nat.le_max_left _ _), fun i o ho => by
      have hne : i ≠ b := fun e => by rw [e, hb] at ho; cases ho
      rw [View.see_put_ne _ _ hne, View.see_put_ne _ _ hne]; exact ho, rfl⟩
  refine ⟨h.mono hle, ?_⟩
  obtain ⟨cs, hB, _, _⟩ := h
  rcases hB.own with ⟨ha, _⟩ | ⟨r, all, ha, hs, _⟩
  · unfold View.minus; rw [ha]; exact View.see_put_same _ _ _
  · have hne : b ≠ r := fun e => by rw [← e, hb] at hs; cases hs
    unfold View.minus; rw [ha]
    show (View.hide _ r).see b = _
    rw [hide_see, if_neg hne]; exact View.see_put_same _ _ _
/-- What beside a tree of one's own is called leaves it as it is. -/
theorem BoxT.call {P : Program} {f : FuncId} {args : Array Value} {V0 V : View} {b : Nat} {x : Sl} {t : Tre} {K : Value → View → Prop} (h : BoxT V0 V b x t) (hc : CallV P f args (V.minus x) fun r U' => K r U' ∧ (V.minus x).Le U') :
    CallV P f args V fun r V' => ∃ U', K r U' ∧ U'.Le (V'.minus x) ∧ V.Le V' ∧ BoxT V0 V' b x t := by
  obtain ⟨cs, hB, _, _⟩ := h.own
  refine (CallV.besideG hB hc).mono ?_
  rintro r V' ⟨U', h1, _, h2, h3⟩
  exact ⟨U', h1, h2, h3, h.mono h3⟩
/-- A write into the tree leaves the box. -/
theorem BoxT.write {V0 V V' : View} {b : Nat} {x : Sl} {t u : Tre} (h : BoxT V0 V b x t) (hle : (V.minus x).Le (V'.minus x)) (ho : OwnT V0 V' x u) : BoxT V0 V' b x u := ⟨ho, hle.see _ _ h.box⟩
theorem sets_minus {V : View} {x : Sl} {ad : Addr} (ha : x.a = some ad) (k : Nat) (vs : List Value) : (V.minus x).Le ((V.sets (ad.add k) vs).minus x) := by
  unfold View.minus View.sets
  rw [ha, Addr.add_block]
  show (V.hide ad.block).Le (View.hide _ ad.block)
  cases V.see ad.block with
  | some o => exact hide_le_put_hide _ _
  | none => exact View.Le.refl _
theorem inI_pred {k : Int} (h : inI .i64 k) (h0 : 0 ≤ k) : inI .i64 (k - 1) := by
  have h2 : k ≤ 9223372036854775807 := h.2
  exact inI64 (by omega) (by omega)
theorem sets_minus2 {V : View} {x : Sl} {ad : Addr} (ha : x.a = some ad) (k j : Nat) (vs : List Value) : (V.minus x).Le ((V.sets ((ad.add k).add j) vs).minus x) := by
  rw [Addr.add_add]; exact sets_minus ha _ _
theorem with_box {V0 V : View} {b : Nat} {x : Sl} {t : Tre} {l : List Ent} {y : Sl} {s : ByteArray} {i : Int} (h : BoxT V0 V b x t) (hl : SlR (V.minus x) y l) (hs : s.size ≤ 9223372036854775807) (hi : inI .i64 i) :
    CallV Tryz.prog 80 ⟨[.slice y.a y.n y.c, .string s, .int .i64 i]⟩ V fun r V' => ∃ U', outE U' r (withE l ⟨s, i⟩) ∧ U'.Le (V'.minus x) ∧ V.Le V' ∧ BoxT V0 V' b x t := h.call (with_ok hl hs hi)
theorem enters_ok {V0 V : View} {b : Nat} {x : Sl} {t : Tre} {d : Nat} {s : ByteArray} {i j : Int} {o : Except Int (List Ent)} (h : BoxT V0 V b x t) (hd : d < t.length) (hs : s.size ≤ 9223372036854775807) (hi : inI .i64 i) (ho : withE (entsT t d) ⟨s, i⟩ = o) (hc : ∀ c, o = .error c → c ≠ 0) :
    CallV Tryz.prog 42 ⟨[.pointer (some ⟨b, 0, none⟩), .agg ⟨[.int .i64 d, .string s, .int .i64 j]⟩, .int .i64 i]⟩ V fun r V' => (∀ l, o = .ok l → r = .int .i64 0 ∧ BoxT V0 V' b x (entT t d l)) ∧ (∀ c, o = .error c → r = .int .i64 c) ∧ V0.Le V' := by
  refine f42_x ?_
  unfold f42_n
  obtain ⟨ad, sq, en, ha, hcs, hN, _, _, _, hset⟩ := h.own.setC hd
  have hn := h.own.n
  refine fun _ => ⟨trivial, V, View.Le.refl _, _, rfl, x, h.cell, by omega, by omega, ad, ha, en, cellsAt_nth hcs 4 rfl, (with_box h hN.ents hs hi).mono ?_⟩
  rintro r V1 ⟨U, ⟨y, e, rfl, hy⟩, hU, hV1, h1⟩
  have ho' : withE (t.getD d default).ents ⟨s, i⟩ = o := ho
  rw [ho'] at hy
  refine ⟨y, e, rfl, ?_⟩
  obtain ⟨ad', sq', en', ha', hcs', _, _, _, _, hset'⟩ := h1.own.setC hd
  cases o with
  | error c =>
    obtain ⟨rfl, _⟩ := hy
    have := hc e rfl
    refine joinP_cut (fun _ V' => V' = V1) (br_intro (fun h => absurd (of_decide_eq_true h) this) (fun _ => rfl)) ?_
    rintro ⟨⟩ V2 rfl
    exact ⟨fun l h => (by cases h), fun c' h => (by cases h; rfl), h1.own.le⟩
  | ok l =>
    obtain ⟨rfl, hy⟩ := hy
    obtain ⟨a1, a2⟩ := hset' y l _ (hy.mono hU) rfl
    refine joinP_cut (fun _ V' => BoxT V0 V' b x (entT t d l)) (br_intro (fun _ => ⟨trivial, V1, View.Le.refl _, _, rfl, x, h1.cell, by omega, by omega, ad', ha', a1, ?_⟩) (fun h => absurd h (by decide))) ?_
    · exact h1.write (sets_minus2 ha' _ _ _) a2
    · rintro ⟨⟩ V2 h2
      exact ⟨fun l' h => (by cases h; exact ⟨rfl, h2⟩), fun c h => (by cases h), h2.own.le⟩
theorem leaves_ok {V0 V : View} {b : Nat} {x : Sl} {t : Tre} {d : Nat} {s : ByteArray} {j : Int} {l : List Ent} (h : BoxT V0 V b x t) (hd : d < t.length) (ho : withoutE (entsT t d) s = .ok l) :
    CallV Tryz.prog 44 ⟨[.pointer (some ⟨b, 0, none⟩), .agg ⟨[.int .i64 d, .string s, .int .i64 j]⟩]⟩ V fun r V' => r = .tuple ⟨[]⟩ ∧ BoxT V0 V' b x (entT t d l) := by
  refine f44_x ?_
  unfold f44_n
  obtain ⟨ad, sq, en, ha, hcs, hN, _, _, _, hset⟩ := h.own.setC hd
  have hn := h.own.n
  refine fun _ => ⟨trivial, V, View.Le.refl _, _, rfl, x, h.cell, _, rfl, x, h.cell, by omega, by omega, ad, ha, en, cellsAt_nth hcs 4 rfl, (h.call (without_ok hN.ents)).mono ?_⟩
  rintro r V1 ⟨U, ⟨y, e, rfl, hy⟩, hU, hV1, h1⟩
  have ho' : withoutE (t.getD d default).ents s = .ok l := ho
  rw [ho'] at hy
  obtain ⟨rfl, hy⟩ := hy
  obtain ⟨ad', sq', en', ha', hcs', _, _, _, _, hset'⟩ := h1.own.setC hd
  obtain ⟨a1, a2⟩ := hset' y l _ (hy.mono hU) rfl
  exact ⟨y, _, rfl, hV1, by omega, by omega, ad', ha', a1, rfl, h1.write (sets_minus2 ha' _ _ _) a2⟩
theorem zeroN_rep {W : View} : Rep.rep W [.int .i64 0, .int .i64 0, .int .i64 0, .slice none 0 0, .slice none 0 0] Nod.zero := ⟨⟨none, 0, 0⟩, ⟨none, 0, 0⟩, rfl, zero64, zero64, zero64, SlR.nil _ _ _, SlR.nil _ _ _⟩
theorem less_ok {V0 V : View} {b : Nat} {x y : Sl} {t : Tre} {i : Nat} {held : List Bool} (h : BoxT V0 V b x t) (hi : i < t.length) (hl : 0 ≤ (t.getD i default).links) (hy : SlR V0 y held) :
    CallV Tryz.prog 45 ⟨[.pointer (some ⟨b, 0, none⟩), .int .i64 i, .slice y.a y.n y.c]⟩ V fun r V' => r = .tuple ⟨[]⟩ ∧ BoxT V0 V' b x (lessT t i held) := by
  refine f45_x ?_
  unfold f45_n
  obtain ⟨ad, sq, en, ha, hcs, hN, hset, _⟩ := h.own.setC hi
  have hn := h.own.n
  have hyn := hy.n
  refine ⟨_, rfl, x, h.cell, by omega, by omega, ad, ha, _, rfl, _, cellsAt_nth hcs 0 rfl, ?_⟩
  refine joinP_cut (fun _ V' => ∃ t' : Tre, BoxT V0 V' b x t' ∧ t'.length = t.length ∧ t'.set i Nod.zero = lessT t i held) (br_intro (fun hk => ?_) (fun hk => ?_)) ?_
  · have hk : kindT t i = 1 := of_decide_eq_true hk
    have hlim := hN.links
    obtain ⟨a1, a2⟩ := hset ((t.getD i default).links - 1) _ (inI_pred hlim hl) rfl
    have hB1 := h.write (sets_minus2 ha (i * 5) 1 [.int .i64 ((t.getD i default).links - 1)]) a2
    have hi1 : i < (t.set i { t.getD i default with links := (t.getD i default).links - 1 }).length := by simpa using hi
    obtain ⟨ad1, sq1, en1, ha1, hcs1, hN1, _⟩ := hB1.own.setC hi1
    have e1 : (t.set i { t.getD i default with links := (t.getD i default).links - 1 }).getD i default = { t.getD i default with links := (t.getD i default).links - 1 } := by
      rw [getD_at hi1]; simp
    rw [ha] at ha1; cases ha1
    rw [e1] at hcs1
    have hle1 := hB1.own.le
    refine ⟨_, rfl, _, cellsAt_nth hcs 1 rfl, inI_pred hlim hl, _, rfl, a1, ?_⟩
    have hstep : t.set i { t.getD i default with links := (t.getD i default).links - 1 } |>.set i Nod.zero |> (· = t.set i Nod.zero) := List.set_set ..
    refine joinP_cut (fun q V' => BoxT V0 V' b x (t.set i { t.getD i default with links := (t.getD i default).links - 1 }) ∧ q.1 = (decide (0 < (t.getD i default).links - 1) || heldB held i)) ⟨_, rfl, _, cellsAt_nth hcs1 1 rfl, br_intro (fun hp => ⟨hB1, by rw [hp]; rfl⟩) (fun hp => br_intro (fun hlt => ?_) (fun hge => ⟨hB1, ?_⟩))⟩ ?_
    · have hlt := of_decide_eq_true hlt
      obtain ⟨ad3, hx3, ha3, hc3⟩ := (hy.mono hle1).bool (x := (i : Int)) (by omega) (by omega)
      refine ⟨by omega, by omega, ad3, ha3, _, hc3, hB1, ?_⟩
      rw [hp, Bool.false_or]
      unfold heldB
      have e : ((i : Int)).toNat = i := by omega
      rw [List.getD_eq_getElem?_getD, List.getElem?_eq_getElem (by omega)]
      simp only [e]; rfl
    · have hge := of_decide_eq_false hge
      rw [hp, Bool.false_or]
      unfold heldB
      rw [List.getD_eq_getElem?_getD, List.getElem?_eq_none (by omega)]; rfl
    · rintro ⟨q, ⟨⟩⟩ V2 ⟨hB2, hq⟩
      dsimp only [unc] at *
      have hcase : lessT t i held = if q = true then t.set i { t.getD i default with links := (t.getD i default).links - 1 } else t.set i Nod.zero := by
        unfold lessT
        rw [hq]
        by_cases h1 : 0 < (t.getD i default).links - 1 ∨ heldB held i = true
        · rw [if_pos ⟨hk, h1⟩, if_pos (by simpa using h1)]
        · rw [if_neg (fun h => h1 h.2), if_neg (by simpa using h1)]
      refine br_intro (fun hq1 => ⟨rfl, ?_⟩) (fun hq1 => ⟨_, hB2, by simp, ?_⟩)
      · rw [hcase, if_pos hq1]; exact hB2
      · rw [hcase, if_neg (by rw [hq1]; decide)]; exact hstep
  · have hk : ¬ kindT t i = 1 := of_decide_eq_false hk
    refine ⟨t, h, rfl, ?_⟩
    unfold lessT
    rw [if_neg (fun h => hk h.1)]
  · rintro ⟨⟩ V1 ⟨t', h1, hlen, e⟩
    obtain ⟨ad2, ha2, a1, a2⟩ := h1.own.set (i := i) (by omega) (n := Nod.zero) (vs := [.int .i64 0, .int .i64 0, .int .i64 0, .slice none 0 0, .slice none 0 0]) fun _ _ => zeroN_rep
    rw [ha] at ha2; cases ha2
    rw [e] at a2
    exact ⟨_, rfl, a1, rfl, h1.write (sets_minus ha (i * 5) _) a2⟩
end Go.Proofs.YtdlgpolngnkiaaaGreatDoor

/- Contracts of calls on names: what is made, linked, renamed, taken away. -/
namespace Go.Proofs.YtdlgpolngnkiaaaGreatDoor
open Go
theorem lastP_err {s : ByteArray} : (lastP s).2.2 = 0 ∨ (lastP s).2.2 = 7 ∨ (lastP s).2.2 = 18 := by
  unfold lastP
  split
  · right; left; rfl
  · split
    · right; right; rfl
    · left; rfl
theorem par_err {t : Tre} {p : ByteArray} {e : Int} (h : parentT t p = .error e) : e ≠ 0 := by
  unfold parentT at h
  split at h
  · split at h
    · split at h
      · rename_i hf; cases h; exact ends_only hf
      · split at h
        · cases h
        · cases h; decide
    · rename_i h0; cases h; exact h0
  · cases h; decide
theorem free_spec {t : Tre} (hM : mayT t = true) : freeT t = -1 ∨ (1 ≤ freeT t ∧ freeT t < 12 ∧ kindT t (freeT t).toNat = 0) := by
  have h12 := (mayT_all hM).1
  have h0 : kindT t 0 = 2 := (mayT_all hM).2.2.1
  unfold freeT
  rw [if_pos hM]
  rcases idxI_find (fun n : Nod => decide (n.kind = 0)) t with ⟨h1, _⟩ | ⟨i, hi, h1, h2⟩
  · exact .inl h1
  · have hk := List.find?_some h2
    have hk : t[i].kind = 0 := by simpa using hk
    have hk2 : kindT t i = 0 := by unfold kindT; rw [getD_at hi]; exact hk
    right
    rw [h1]
    refine ⟨?_, by omega, by rw [Int.toNat_natCast]; exact hk2⟩
    by_cases hi0 : i = 0
    · subst hi0; omega
    · omega
/-- What a call on names tells. -/
def outT (V V' : View) (r : Value) (o : Except Int Tre) : Prop := (∃ (x : Sl) (e : Int), r = .tuple ⟨[treV x, .int .i64 e]⟩ ∧ (match o with
  | .ok u => e = 0 ∧ SlR V' x u
  | .error c => e = c ∧ c ≠ 0 ∧ SlR (α := Nod) V' x [])) ∧ V.Le V'
theorem none_ok {V0 V : View} {c : Int} (hc : c ≠ 0) (hle : V0.Le V) : CallV Tryz.prog 39 ⟨[.int .i64 c]⟩ V fun r V' => outT V0 V' r (.error c) := by
  refine f39_x ?_
  unfold f39_n
  exact fun _ => ⟨⟨⟨none, 0, 0⟩, c, rfl, rfl, hc, SlR.nil _ _ _⟩, hle⟩
/-- How 'none' is returned. -/
theorem none_ret {V0 V : View} {c : Int} (hc : c ≠ 0) (hle : V0.Le V) {o : Except Int Tre} (ho : o = .error c) : CallV Tryz.prog 39 ⟨[.int .i64 c]⟩ V fun r V => ∃ x : Sl, ∃ e : Int, r = .tuple ⟨[.agg ⟨[.slice x.a x.n x.c]⟩, .int .i64 e]⟩ ∧ outT V0 V (.tuple ⟨[.agg ⟨[.slice x.a x.n x.c]⟩, .int .i64 e]⟩) o := by
  refine (none_ok hc hle).mono ?_
  rintro r V' ⟨⟨x, e, rfl, h⟩, h2⟩
  exact ⟨x, e, rfl, ⟨x, e, rfl, by rw [ho]; exact h⟩, h2⟩
/-- A place that is told. -/
noncomputable def atV (t : Tre) (p : ByteArray) : Value := match parentT t p with
  | .error e => .tuple ⟨[.agg ⟨[.int .i64 0, .string (ba []), .int .i64 0]⟩, .int .i64 e]⟩
  | .ok (d, s) => .tuple ⟨[.agg ⟨[.int .i64 d, .string s, .int .i64 (atI (entsT t d) s)]⟩, .int .i64 0]⟩
theorem at_ok {s : Sl} {t : Tre} {p : ByteArray} {V : View} (h : SlR V s t) (hp : p.size ≤ 9223372036854775807) (hg : Glo V) : CallV Tryz.prog 40 ⟨[treV s, .string p]⟩ V fun r V' => r = atV t p ∧ V.Le V' := by
  refine f40_x ?_
  unfold f40_n
  have hn := h.n
  refine fun _ _ => (dirParent_ok h hp hg).mono ?_
  rintro r V1 ⟨rfl, hV1⟩
  unfold atV
  cases hq : parentT t p with
  | error e =>
    exact ⟨_, _, _, rfl, br_intro (fun _ => ⟨rfl, hV1⟩) (fun h => absurd (of_decide_eq_true (not_f h)) (par_err hq))⟩
  | ok q =>
    obtain ⟨d, n⟩ := q
    obtain ⟨ld, P⟩ := par_of hq
    have hd := P.d12
    have h12 := (mayT_all P.may).1
    obtain ⟨ad, sq, en, ha, hc, hN⟩ := (h.mono hV1).nodN (i := d) (by omega)
    refine ⟨_, _, _, rfl, br_intro (fun h => absurd h (by decide)) (fun _ => ⟨by omega, by omega, ad, ha, en, cellsAt_nth hc 4 rfl, (nameFind_ok hN.ents).mono ?_⟩)⟩
    rintro r V2 ⟨rfl, hV2⟩
    exact ⟨_, rfl, rfl, hV1.trans hV2⟩
/-- A place that must be there. -/
noncomputable def thereV (t : Tre) (p : ByteArray) : Value := match parentT t p with
  | .error e => .tuple ⟨[.agg ⟨[.int .i64 0, .string (ba []), .int .i64 0]⟩, .int .i64 e]⟩
  | .ok (d, s) => .tuple ⟨[.agg ⟨[.int .i64 d, .string s, .int .i64 (atI (entsT t d) s)]⟩, .int .i64 (if atI (entsT t d) s < 0 then 8 else 0)]⟩
theorem there_ok {s : Sl} {t : Tre} {p : ByteArray} {V : View} (h : SlR V s t) (hp : p.size ≤ 9223372036854775807) (hg : Glo V) : CallV Tryz.prog 43 ⟨[treV s, .string p]⟩ V fun r V' => r = thereV t p ∧ V.Le V' := by
  refine f43_x ?_
  unfold f43_n
  refine fun _ _ => (at_ok h hp hg).mono ?_
  rintro r V1 ⟨rfl, hV1⟩
  unfold atV thereV
  cases hq : parentT t p with
  | error e =>
    have he := par_err hq
    refine ⟨_, _, _, _, rfl, fun _ => joinP_cut (fun q V' => q.1 = e ∧ V' = V1) (br_intro (fun h => ?_) (fun _ => ⟨rfl, rfl⟩)) ?_⟩
    · rw [decide_eq_false he] at h; cases h
    · rintro ⟨q, ⟨⟩⟩ V2 ⟨e1, rfl⟩
      dsimp only [unc] at *
      exact ⟨by rw [e1], hV1⟩
  | ok q =>
    obtain ⟨d, n⟩ := q
    refine ⟨_, _, _, _, rfl, fun _ => joinP_cut (fun q V' => q.1 = (if atI (entsT t d) n < 0 then 8 else 0) ∧ V' = V1) (br_intro (fun h => ⟨?_, rfl⟩) (fun h => ⟨?_, rfl⟩)) ?_⟩
    · rw [if_pos (of_decide_eq_true h)]
    · rw [if_neg (of_decide_eq_false h)]
    · rintro ⟨q, ⟨⟩⟩ V2 ⟨e1, rfl⟩
      dsimp only [unc] at *
      exact ⟨by rw [e1], hV1⟩
theorem empty_ok {k : Int} {V : View} : CallV Tryz.prog 47 ⟨[.int .i64 k]⟩ V fun r V' => (∃ s e : Sl, r = nodV (emptyN k) s e ∧ NodR V' s e (emptyN k)) ∧ V.Le V' := by
  refine f47_x ?_
  unfold f47_n
  refine fun _ => br_intro (fun h1 => ⟨by decide, by decide, by decide, by decide, fun r hr => ?_⟩) (fun h1 => br_intro (fun h2 => ?_) (fun h2 => ?_))
  · have h1 : k = 1 := of_decide_eq_true h1
    subst h1
    have hp := View.put_le (o := .cells ⟨(List.replicate 5 [.int .i64 0]).flatten⟩ 3 (0, 0)) (View.see_none_of_ge hr)
    refine ⟨⟨⟨some ⟨r, 0, none⟩, 5, 5⟩, ⟨none, 0, 0⟩, rfl, one64, one64, zero64, ?_, SlR.nil _ _ _⟩, hp⟩
    exact slR_block (l := [0, 0, 0, 0, 0]) (W := V) (View.see_put_same _ _ _) (rows_int (l := [0, 0, 0, 0, 0]) fun n hn => by
      have : n = 0 := by simpa using hn
      rw [this]; exact zero64) hp (show 5 ≤ 140737488355328 by decide)
  · have h2 : k = 2 := of_decide_eq_true h2
    subst h2
    exact ⟨⟨⟨none, 0, 0⟩, ⟨none, 0, 0⟩, rfl, two64, one64, zero64, SlR.nil _ _ _, SlR.nil _ _ _⟩, View.Le.refl _⟩
  · have e : emptyN k = Nod.zero := by
      unfold emptyN
      rw [if_neg (of_decide_eq_false h1), if_neg (of_decide_eq_false h2)]
    rw [e]
    exact ⟨⟨⟨none, 0, 0⟩, ⟨none, 0, 0⟩, rfl, zero64, zero64, zero64, SlR.nil _ _ _, SlR.nil _ _ _⟩, View.Le.refl _⟩
theorem entT_len (t : Tre) (d : Nat) (l : List Ent) : (entT t d l).length = t.length := by unfold entT; simp
theorem mayT_lightT {t : Tre} (h : mayT t = true) : t.length ≤ 1000 ∧ ∀ n ∈ t, LightN n := mayT_light' h
/-- With what is entered, of a tree that may be. -/
theorem with_par {t : Tre} {p s : ByteArray} {ld : List ByteArray} {d : Nat} (P : Par t p ld d s) {i : Int} (h1 : 1 ≤ i) (h2 : i < 12) (hat : ¬ 0 ≤ atI (entsT t d) s) : withE (entsT t d) ⟨s, i⟩ = if 10 ≤ (entsT t d).length then .error 14 else .ok (insE (entsT t d) ⟨s, i⟩) := by
  rw [with_ok_of P.mayL (by unfold soleE; rw [show mayB (⟨s, i⟩ : Ent).name = true from P.sole, decide_eq_true (show 1 ≤ (⟨s, i⟩ : Ent).node from h1), decide_eq_true (show (⟨s, i⟩ : Ent).node < 12 from h2)]; rfl)]
  have := at_has (mayL_pos P.mayL) s
  rw [decide_eq_false hat] at this
  rw [if_neg (by show ¬ hasE (entsT t d) s = true; rw [← this]; decide)]
theorem without_par {t : Tre} {p s : ByteArray} {ld : List ByteArray} {d : Nat} (P : Par t p ld d s) (hat : ¬ atI (entsT t d) s < 0) : withoutE (entsT t d) s = .ok (cutE (entsT t d) s) := by
  have := at_has (mayL_pos P.mayL) s
  rw [decide_eq_true (by omega)] at this
  exact without_ok_of P.mayL this.symm
theorem makes_ok {s : Sl} {t : Tre} {p : ByteArray} {k : Int} {V : View} (h : SlR V s t) (hp : p.size ≤ 9223372036854775807) (hg : Glo V) : CallV Tryz.prog 36 ⟨[treV s, .string p, .int .i64 k]⟩ V fun r V' => outT V V' r (makesT t p k) := by
  refine f36_x ?_
  unfold f36_n
  have hn := h.n
  refine fun _ _ => (at_ok h hp hg).mono ?_
  rintro r V1 ⟨rfl, hV1⟩
  unfold atV
  cases hq : parentT t p with
  | error e =>
    exact ⟨_, _, _, _, rfl, fun _ => br_intro (fun _ => none_ret (par_err hq) hV1 (by unfold makesT; rw [hq])) (fun h => absurd (of_decide_eq_true (not_f h)) (par_err hq))⟩
  | ok q =>
    obtain ⟨d, n⟩ := q
    obtain ⟨ld, P⟩ := par_of hq
    have hd := P.d12
    have h12 := (mayT_all P.may).1
    have hE : makesT t p k = if 0 ≤ atI (entsT t d) n then .error 9 else if freeT t < 0 then .error 14 else if 10 ≤ (entsT t d).length then .error 14 else .ok ((entT t d (insE (entsT t d) ⟨n, freeT t⟩)).set (freeT t).toNat (emptyN k)) := by unfold makesT; rw [hq]
    refine ⟨_, _, _, _, rfl, fun _ => br_intro (fun h => absurd h (by decide)) (fun _ => br_intro (fun h0 => none_ret (by decide) hV1 (by rw [hE, if_pos (of_decide_eq_true h0)])) (fun h0 => ?_))⟩
    have h0 := of_decide_eq_false h0
    rw [if_neg h0] at hE
    refine (free_ok (h.mono hV1)).mono ?_
    rintro r V2 ⟨rfl, hV2⟩
    have q2 := hV1.trans hV2
    refine ⟨_, rfl, br_intro (fun hf => none_ret (by decide) q2 (by rw [hE, if_pos (of_decide_eq_true hf)])) (fun hf => ?_)⟩
    have hf := of_decide_eq_false hf
    rw [if_neg hf] at hE
    obtain ⟨f1, f2, f3⟩ : 1 ≤ freeT t ∧ freeT t < 12 ∧ kindT t (freeT t).toNat = 0 := by
      rcases free_spec P.may with h | h
      · omega
      · exact h
    refine (copyT_ok (h.mono q2) (mayT_lightT P.may)).mono ?_
    rintro r V3 ⟨x, rfl, hO⟩
    refine ⟨x, rfl, fun b hb => ?_⟩
    obtain ⟨b1, b2⟩ := box_new hO hb
    have hlen := P.size
    refine ⟨b1, (enters_ok b2 (d := d) (by omega) (by omega) (inI64 (by omega) (by omega)) (with_par P f1 f2 h0) (fun c hc => ?_)).mono ?_⟩
    · split at hc <;> cases hc; decide
    rintro r V4 ⟨h4, h4e, hle4⟩
    by_cases hfull : 10 ≤ (entsT t d).length
    · rw [if_pos hfull] at hE
      obtain rfl := h4e 14 (if_pos hfull)
      exact ⟨_, rfl, br_intro (fun _ => none_ret (by decide) (q2.trans hle4) hE) (fun h => absurd h (by decide))⟩
    · rw [if_neg hfull] at hE
      obtain ⟨rfl, hb4⟩ := h4 _ (if_neg hfull)
      refine ⟨_, rfl, br_intro (fun h => absurd h (by decide)) (fun _ => ⟨trivial, V4, View.Le.refl _, x, hb4.cell0, (hb4.call empty_ok).mono ?_⟩)⟩
      rintro r V5 ⟨U, ⟨sq, en, rfl, hN⟩, hU, hV5, h5⟩
      have hn5 := h5.own.n
      rw [entT_len] at hn5
      obtain ⟨ad, ha, c1, c2⟩ := h5.own.set (i := (freeT t).toNat) (by rw [entT_len]; omega) (n := emptyN k) (vs := [.int .i64 (emptyN k).kind, .int .i64 (emptyN k).links, .int .i64 (emptyN k).size, .slice sq.a sq.n sq.c, .slice en.a en.n en.c]) fun _ _ => (hN.mono hU).rep
      have h6 := h5.write (sets_minus ha ((freeT t).toNat * 5) _) c2
      rw [hE]
      exact ⟨_, _, _, sq, en, rfl, hV5, by omega, by omega, ad, ha, c1, x, h6.cells, ⟨x, 0, rfl, rfl, h6.own.slR⟩, q2.trans h6.own.le⟩
theorem create_ok {s : Sl} {t : Tre} {p : ByteArray} {V : View} (h : SlR V s t) (hp : p.size ≤ 9223372036854775807) (hg : Glo V) : CallV Tryz.prog 13 ⟨[treV s, .string p]⟩ V fun r V' => outT V V' r (makesT t p 1) := by
  refine f13_x ?_
  unfold f13_n
  refine fun _ _ => (makes_ok h hp hg).mono ?_
  rintro r V1 ⟨⟨x, e, rfl, h1⟩, h2⟩
  exact ⟨x, e, rfl, ⟨x, e, rfl, h1⟩, h2⟩
theorem mkdir_ok {s : Sl} {t : Tre} {p : ByteArray} {V : View} (h : SlR V s t) (hp : p.size ≤ 9223372036854775807) (hg : Glo V) : CallV Tryz.prog 18 ⟨[treV s, .string p]⟩ V fun r V' => outT V V' r (makesT t p 2) := by
  refine f18_x ?_
  unfold f18_n
  refine fun _ _ => (makes_ok h hp hg).mono ?_
  rintro r V1 ⟨⟨x, e, rfl, h1⟩, h2⟩
  exact ⟨x, e, rfl, ⟨x, e, rfl, h1⟩, h2⟩
end Go.Proofs.YtdlgpolngnkiaaaGreatDoor

/- Contracts of calls on names: unlinked, linked, renamed, dropped. -/
namespace Go.Proofs.YtdlgpolngnkiaaaGreatDoor
open Go
theorem entT_at {t : Tre} {d i : Nat} {l : List Ent} (h : i ≠ d) : (entT t d l).getD i default = t.getD i default := by
  unfold entT
  rw [List.getD_eq_getElem?_getD, List.getElem?_set_ne (fun e => h e.symm), ← List.getD_eq_getElem?_getD]
theorem entT_same {t : Tre} {d : Nat} {l : List Ent} (h : d < t.length) : (entT t d l).getD d default = { t.getD d default with ents := l } := by
  rw [getD_at (by rw [entT_len]; exact h)]
  unfold entT
  rw [List.getElem_set_self]
theorem at_kind {t : Tre} (hM : mayT t = true) {d : Nat} {s : ByteArray} (h : ¬ atI (entsT t d) s < 0) : kindT t d = 2 ∧ 1 ≤ atI (entsT t d) s ∧ atI (entsT t d) s < 12 ∧ kindT t (atI (entsT t d) s).toNat ≠ 0 ∧ ∃ e ∈ entsT t d, e.name = s ∧ e.node = atI (entsT t d) s := by
  obtain ⟨e, he, h1, h2⟩ := atI_mem h
  have := (mayF hM).ent he
  rw [← h2]
  exact ⟨this.2.1, this.2.2.1, this.2.2.2.1, this.2.2.2.2.2, e, he, h1, rfl⟩
theorem file_links {t : Tre} (hM : mayT t = true) {i : Nat} (hi : i < 12) : 0 ≤ (t.getD i default).links ∧ (t.getD i default).links ≤ 120 := by
  have h := (mayF hM).at hi
  unfold mayN at h
  split at h
  · simp only [Bool.and_eq_true, decide_eq_true_eq] at h; omega
  · split at h
    · unfold fileB within at h
      simp only [Bool.and_eq_true, decide_eq_true_eq] at h
      exact h.1.1.1.1
    · split at h
      · simp only [Bool.and_eq_true, decide_eq_true_eq] at h; omega
      · cases h
theorem cutd_self {t : Tre} (hM : mayT t = true) {d : Nat} {s : ByteArray} (h : ¬ atI (entsT t d) s < 0) : (atI (entsT t d) s).toNat ≠ d := by
  obtain ⟨_, h1, _, _, e, he, _, h2⟩ := at_kind hM h
  intro hd
  refine (mayF hM).nocycle he ?_
  rw [h2, hd]; exact .refl
theorem thereV_err {t : Tre} {p : ByteArray} {e : Int} (h : parentT t p = .error e) : thereV t p = .tuple ⟨[.agg ⟨[.int .i64 0, .string (ba []), .int .i64 0]⟩, .int .i64 e]⟩ := by
  unfold thereV; rw [h]
theorem thereV_ok {t : Tre} {p s : ByteArray} {d : Nat} (h : parentT t p = .ok (d, s)) : thereV t p = .tuple ⟨[.agg ⟨[.int .i64 d, .string s, .int .i64 (atI (entsT t d) s)]⟩, .int .i64 (if atI (entsT t d) s < 0 then 8 else 0)]⟩ := by
  unfold thereV; rw [h]
theorem atV_err {t : Tre} {p : ByteArray} {e : Int} (h : parentT t p = .error e) : atV t p = .tuple ⟨[.agg ⟨[.int .i64 0, .string (ba []), .int .i64 0]⟩, .int .i64 e]⟩ := by
  unfold atV; rw [h]
theorem atV_ok {t : Tre} {p s : ByteArray} {d : Nat} (h : parentT t p = .ok (d, s)) : atV t p = .tuple ⟨[.agg ⟨[.int .i64 d, .string s, .int .i64 (atI (entsT t d) s)]⟩, .int .i64 0]⟩ := by
  unfold atV; rw [h]
theorem int_nat {a : Int} (h : 1 ≤ a) : Value.int .i64 a = Value.int .i64 ((a.toNat : Nat) : Int) := by congr 1; omega
theorem unlink_ok {s y : Sl} {t : Tre} {p : ByteArray} {held : List Bool} {V : View} (h : SlR V s t) (hy : SlR V y held) (hp : p.size ≤ 9223372036854775807) (hg : Glo V) : CallV Tryz.prog 16 ⟨[treV s, .string p, .slice y.a y.n y.c]⟩ V fun r V' => outT V V' r (unlinkT t p held) := by
  refine f16_x ?_
  unfold f16_n
  have hn := h.n
  refine fun _ _ => (there_ok h hp hg).mono ?_
  rintro r V1 ⟨rfl, hV1⟩
  cases hq : parentT t p with
  | error e =>
    rw [thereV_err hq]
    exact ⟨_, _, _, _, rfl, fun _ => br_intro (fun _ => none_ret (par_err hq) hV1 (by unfold unlinkT; rw [hq])) (fun h => absurd (of_decide_eq_true (not_f h)) (par_err hq))⟩
  | ok q =>
    obtain ⟨d, n⟩ := q
    obtain ⟨ld, P⟩ := par_of hq
    have hd := P.d12
    have h12 := (mayT_all P.may).1
    rw [thereV_ok hq]
    have hE : unlinkT t p held = if atI (entsT t d) n < 0 then .error 8 else if kindT t (atI (entsT t d) n).toNat = 2 then .error 10 else .ok (lessT (entT t d (cutE (entsT t d) n)) (atI (entsT t d) n).toNat held) := by unfold unlinkT; rw [hq]
    by_cases h0 : atI (entsT t d) n < 0
    · rw [if_pos h0] at hE ⊢
      exact ⟨_, _, _, _, rfl, fun _ => br_intro (fun _ => none_ret (by decide) hV1 hE) (fun h => absurd h (by decide))⟩
    rw [if_neg h0] at hE ⊢
    obtain ⟨k0, k1, k2, k3, _⟩ := at_kind P.may h0
    have hne := cutd_self P.may h0
    obtain ⟨ad, sq, en, ha, hc, hN⟩ := (h.mono hV1).nodN (i := (atI (entsT t d) n).toNat) (by omega)
    refine ⟨_, _, _, _, rfl, fun _ => br_intro (fun h => absurd h (by decide)) (fun _ => ⟨by omega, by omega, ad, ha, _, cellsAt_nth hc 0 rfl, br_intro (fun hk => none_ret (by decide) hV1 (by rw [hE, if_pos (of_decide_eq_true hk)])) (fun hk => ?_)⟩)⟩
    rw [if_neg (show ¬ kindT t (atI (entsT t d) n).toNat = 2 from of_decide_eq_false hk)] at hE
    refine (copyT_ok (h.mono hV1) (mayT_lightT P.may)).mono ?_
    rintro r V3 ⟨x, rfl, hO⟩
    refine ⟨x, rfl, fun b hb => ?_⟩
    obtain ⟨b1, b2⟩ := box_new hO hb
    refine ⟨b1, (leaves_ok b2 (d := d) (by omega) (without_par P h0)).mono ?_⟩
    rintro r V4 ⟨rfl, h4⟩
    have hl := file_links P.may (i := (atI (entsT t d) n).toNat) (by omega)
    have e1 := entT_at (t := t) (l := cutE (entsT t d) n) hne
    rw [int_nat k1]
    refine ⟨rfl, (less_ok h4 (i := (atI (entsT t d) n).toNat) (by rw [entT_len]; omega) (by rw [e1]; exact hl.1) (hy.mono hV1)).mono ?_⟩
    rintro r V5 ⟨rfl, h5⟩
    rw [hE]
    exact ⟨rfl, x, h5.cells, ⟨x, 0, rfl, rfl, h5.own.slR⟩, hV1.trans h5.own.le⟩
theorem rmdir_ok {s : Sl} {t : Tre} {p : ByteArray} {V : View} (h : SlR V s t) (hp : p.size ≤ 9223372036854775807) (hg : Glo V) : CallV Tryz.prog 21 ⟨[treV s, .string p]⟩ V fun r V' => outT V V' r (rmdirT t p) := by
  refine f21_x ?_
  unfold f21_n
  have hn := h.n
  refine fun _ _ => (there_ok h hp hg).mono ?_
  rintro r V1 ⟨rfl, hV1⟩
  cases hq : parentT t p with
  | error e =>
    rw [thereV_err hq]
    exact ⟨_, _, _, _, rfl, fun _ => br_intro (fun _ => none_ret (par_err hq) hV1 (by unfold rmdirT; rw [hq])) (fun h => absurd (of_decide_eq_true (not_f h)) (par_err hq))⟩
  | ok q =>
    obtain ⟨d, n⟩ := q
    obtain ⟨ld, P⟩ := par_of hq
    have hd := P.d12
    have h12 := (mayT_all P.may).1
    rw [thereV_ok hq]
    have hE : rmdirT t p = if atI (entsT t d) n < 0 then .error 8 else if kindT t (atI (entsT t d) n).toNat ≠ 2 then .error 11 else if 0 < (entsT t (atI (entsT t d) n).toNat).length then .error 12 else .ok ((entT t d (cutE (entsT t d) n)).set (atI (entsT t d) n).toNat Nod.zero) := by unfold rmdirT; rw [hq]
    by_cases h0 : atI (entsT t d) n < 0
    · rw [if_pos h0] at hE ⊢
      exact ⟨_, _, _, _, rfl, fun _ => br_intro (fun _ => none_ret (by decide) hV1 hE) (fun h => absurd h (by decide))⟩
    rw [if_neg h0] at hE ⊢
    obtain ⟨k0, k1, k2, k3, _⟩ := at_kind P.may h0
    have hne := cutd_self P.may h0
    obtain ⟨ad, sq, en, ha, hc, hN⟩ := (h.mono hV1).nodN (i := (atI (entsT t d) n).toNat) (by omega)
    have hen : en.n = (entsT t (atI (entsT t d) n).toNat).length := hN.ents.n
    refine ⟨_, _, _, _, rfl, fun _ => br_intro (fun h => absurd h (by decide)) (fun _ => ⟨by omega, by omega, ad, ha, _, cellsAt_nth hc 0 rfl, br_intro (fun hk => none_ret (by decide) hV1 (by rw [hE, if_pos (show kindT t (atI (entsT t d) n).toNat ≠ 2 from of_decide_eq_false (not_t hk))])) (fun hk => ⟨by omega, by omega, ad, ha, en, cellsAt_nth hc 4 rfl, br_intro (fun hl => none_ret (by decide) hV1 ?_) (fun hl => ?_)⟩)⟩)⟩
    · have hk : kindT t (atI (entsT t d) n).toNat = 2 := of_decide_eq_true (not_f hk)
      have hl := of_decide_eq_true hl
      rw [hE, if_neg (fun h => h hk), if_pos (show 0 < (entsT t (atI (entsT t d) n).toNat).length by omega)]
    have hk : kindT t (atI (entsT t d) n).toNat = 2 := of_decide_eq_true (not_f hk)
    have hl := of_decide_eq_false hl
    rw [if_neg (fun h => h hk), if_neg (show ¬ 0 < (entsT t (atI (entsT t d) n).toNat).length by omega)] at hE
    refine (copyT_ok (h.mono hV1) (mayT_lightT P.may)).mono ?_
    rintro r V3 ⟨x, rfl, hO⟩
    refine ⟨x, rfl, fun b hb => ?_⟩
    obtain ⟨b1, b2⟩ := box_new hO hb
    refine ⟨b1, (leaves_ok b2 (d := d) (by omega) (without_par P h0)).mono ?_⟩
    rintro r V4 ⟨rfl, h4⟩
    have hl := file_links P.may (i := (atI (entsT t d) n).toNat) (by omega)
    have e1 := entT_at (t := t) (l := cutE (entsT t d) n) hne
    rw [int_nat k1]
    refine ⟨rfl, (less_ok (y := ⟨none, 0, 0⟩) (held := []) h4 (i := (atI (entsT t d) n).toNat) (by rw [entT_len]; omega) (by rw [e1]; exact hl.1) (SlR.nil _ _ _)).mono ?_⟩
    rintro r V5 ⟨rfl, h5⟩
    have e2 : lessT (entT t d (cutE (entsT t d) n)) (atI (entsT t d) n).toNat [] = (entT t d (cutE (entsT t d) n)).set (atI (entsT t d) n).toNat Nod.zero := by
      unfold lessT
      rw [if_neg]
      rintro ⟨h, _⟩
      unfold kindT at h hk
      rw [e1] at h; omega
    rw [e2] at h5
    rw [hE]
    exact ⟨rfl, x, h5.cells, ⟨x, 0, rfl, rfl, h5.own.slR⟩, hV1.trans h5.own.le⟩
theorem link_ok {s : Sl} {t : Tre} {p q : ByteArray} {V : View} (h : SlR V s t) (hp : p.size ≤ 9223372036854775807) (hq' : q.size ≤ 9223372036854775807) (hg : Glo V) : CallV Tryz.prog 15 ⟨[treV s, .string p, .string q]⟩ V fun r V' => outT V V' r (linkT t p q) := by
  refine f15_x ?_
  unfold f15_n
  have hn := h.n
  refine fun _ _ => (dirFind_ok h hp hg).mono ?_
  rintro r V1 ⟨rfl, hV1⟩
  cases hf : findT t p with
  | error e =>
    exact ⟨_, _, rfl, br_intro (fun _ => none_ret (ends_only hf) hV1 (by unfold linkT; rw [hf])) (fun h => absurd (of_decide_eq_true (not_f h)) (ends_only hf))⟩
  | ok i =>
    have hi := findT_range hf
    have hM : mayT t = true := by unfold findT at hf; split at hf; assumption; cases hf
    have h12 := (mayT_all hM).1
    have hE : linkT t p q = if kindT t i = 2 then .error 10 else match parentT t q with
      | .error e => .error e
      | .ok (d, s) => if 0 ≤ atI (entsT t d) s then .error 9 else if 10 ≤ (entsT t d).length then .error 14 else
        .ok ((entT t d (insE (entsT t d) ⟨s, i⟩)).set i { t.getD i default with links := (t.getD i default).links + 1 }) := by unfold linkT; rw [hf] <;> rfl
    obtain ⟨ad, sq, en, ha, hc, hN⟩ := (h.mono hV1).nodN (i := i) (by omega)
    refine ⟨_, _, rfl, br_intro (fun h => absurd h (by decide)) (fun _ => ⟨by omega, by omega, ad, ha, _, cellsAt_nth hc 0 rfl, br_intro (fun hk => none_ret (by decide) hV1 (by rw [hE, if_pos (show kindT t i = 2 from of_decide_eq_true hk)])) (fun hk => ?_)⟩)⟩
    have hk : ¬ kindT t i = 2 := of_decide_eq_false hk
    rw [if_neg hk] at hE
    refine (at_ok (h.mono hV1) hq' (hg.mono hV1)).mono ?_
    rintro r V2 ⟨rfl, hV2⟩
    have q2 := hV1.trans hV2
    cases hr : parentT t q with
    | error e =>
      rw [atV_err hr]
      exact ⟨_, _, _, _, rfl, fun _ => br_intro (fun _ => none_ret (par_err hr) q2 (by rw [hE, hr])) (fun h => absurd (of_decide_eq_true (not_f h)) (par_err hr))⟩
    | ok z =>
      obtain ⟨d, n⟩ := z
      obtain ⟨ld, P⟩ := par_of hr
      have hd := P.d12
      rw [hr] at hE
      dsimp only at hE
      rw [atV_ok hr]
      have hid : i ≠ d := fun e => hk (by rw [e]; exact P.kind)
      have hi0 : i ≠ 0 := fun e => hk (by rw [e]; exact (mayF hM).top)
      refine ⟨_, _, _, _, rfl, fun _ => br_intro (fun h => absurd h (by decide)) (fun _ => br_intro (fun h0 => none_ret (by decide) q2 (by rw [hE, if_pos (of_decide_eq_true h0)])) (fun h0 => ?_))⟩
      have h0 := of_decide_eq_false h0
      rw [if_neg h0] at hE
      refine (copyT_ok (h.mono q2) (mayT_lightT P.may)).mono ?_
      rintro r V3 ⟨x, rfl, hO⟩
      refine ⟨x, rfl, fun b hb => ?_⟩
      obtain ⟨b1, b2⟩ := box_new hO hb
      have hlen := P.size
      refine ⟨b1, (enters_ok b2 (d := d) (i := (i : Int)) (by omega) (by omega) (inI64 (by omega) (by omega)) (with_par P (by omega) (by omega) h0) (fun c hc => ?_)).mono ?_⟩
      · split at hc <;> cases hc; decide
      rintro r V4 ⟨h4, h4e, hle4⟩
      by_cases hfull : 10 ≤ (entsT t d).length
      · rw [if_pos hfull] at hE
        obtain rfl := h4e 14 (if_pos hfull)
        exact ⟨_, rfl, br_intro (fun _ => none_ret (by decide) (q2.trans hle4) hE) (fun h => absurd h (by decide))⟩
      · rw [if_neg hfull] at hE
        obtain ⟨rfl, hb4⟩ := h4 _ (if_neg hfull)
        have hl := file_links hM hi
        obtain ⟨ad5, sq5, en5, ha5, hc5, hN5, hset, _⟩ := hb4.own.setC (i := i) (by rw [entT_len]; omega)
        have hn5 := hb4.own.n
        rw [entT_len] at hn5
        have e1 := entT_at (t := t) (l := insE (entsT t d) ⟨n, (i : Int)⟩) hid
        rw [e1] at hc5 hset
        obtain ⟨c1, c2⟩ := hset ((t.getD i default).links + 1) _ (inI64 (by omega) (by omega)) rfl
        have h6 := hb4.write (sets_minus2 ha5 (i * 5) 1 _) c2
        rw [hE]
        exact ⟨_, rfl, br_intro (fun h => absurd h (by decide)) (fun _ => ⟨x, hb4.cell0, by omega, by omega, ad5, ha5, _, cellsAt_nth hc5 1 rfl, inI64 (by omega) (by omega), by omega, by omega, ad5, ha5, c1, x, h6.cells, ⟨x, 0, rfl, rfl, h6.own.slR⟩, q2.trans h6.own.le⟩)⟩
theorem drop_ok {s : Sl} {t : Tre} {i : Int} {V : View} (h : SlR V s t) : CallV Tryz.prog 23 ⟨[treV s, .int .i64 i]⟩ V fun r V' => outT V V' r (dropT t i) := by
  refine f23_x ?_
  unfold f23_n
  have hn := h.n
  refine fun _ _ => (mayT_ok h).mono ?_
  rintro r V1 ⟨rfl, hV1⟩
  refine ⟨_, rfl, br_intro (fun hb => none_ret (by decide) hV1 (by unfold dropT; rw [if_neg (by rw [not_t hb]; decide)])) (fun hb => ?_)⟩
  have hM := not_f hb
  have h12 := (mayT_all hM).1
  have hE : dropT t i = if 0 ≤ i ∧ i < 12 ∧ kindT t i.toNat = 1 ∧ (t.getD i.toNat default).links ≤ 0 then .ok (t.set i.toNat Nod.zero) else .error 18 := by unfold dropT; rw [if_pos hM]
  refine joinP_cut (fun q V' => V' = V1 ∧ q.1 = !decide (0 ≤ i ∧ i < 12 ∧ kindT t i.toNat = 1 ∧ (t.getD i.toNat default).links ≤ 0)) (br_intro (fun hr => ⟨rfl, ?_⟩) (fun hr => ?_)) ?_
  · rw [decide_eq_false]; · rfl
    rintro ⟨h0, h1, _⟩
    rw [decide_eq_false (by omega), decide_eq_false (by omega)] at hr; cases hr
  · have h0 : 0 ≤ i := by
      rcases Int.lt_or_le i 0 with h | h
      · rw [decide_eq_true h] at hr; cases hr
      · exact h
    rw [decide_eq_false (by omega)] at hr
    have h1 : i < 12 := by have := of_decide_eq_false hr; omega
    obtain ⟨ad, sq, en, ha, hc, hN⟩ := (h.mono hV1).nodN (i := i.toNat) (by omega)
    refine ⟨h0, by omega, ad, ha, _, cellsAt_nth hc 0 rfl, br_intro (fun hk => ⟨rfl, ?_⟩) (fun hk => ⟨h0, by omega, ad, ha, _, cellsAt_nth hc 1 rfl, rfl, ?_⟩)⟩
    · have hk : ¬ kindT t i.toNat = 1 := of_decide_eq_false (not_t hk)
      rw [decide_eq_false (fun h => hk h.2.2.1)]; rfl
    · have hk : kindT t i.toNat = 1 := of_decide_eq_true (not_f hk)
      by_cases hl : 0 < (t.getD i.toNat default).links
      · rw [decide_eq_false (show ¬ (0 ≤ i ∧ i < 12 ∧ kindT t i.toNat = 1 ∧ (t.getD i.toNat default).links ≤ 0) from fun h => by have := h.2.2.2; omega)]; exact decide_eq_true hl
      · rw [decide_eq_true (show 0 ≤ i ∧ i < 12 ∧ kindT t i.toNat = 1 ∧ (t.getD i.toNat default).links ≤ 0 from ⟨h0, h1, hk, by omega⟩)]; exact decide_eq_false hl
  · rintro ⟨q, ⟨⟩⟩ V2 ⟨rfl, hq⟩
    dsimp only [unc] at *
    refine br_intro (fun hb => none_ret (by decide) hV1 ?_) (fun hb => ?_)
    · rw [hq] at hb
      rw [hE, if_neg (of_decide_eq_false (not_t hb))]
    · rw [hq] at hb
      have hc := of_decide_eq_true (not_f hb)
      rw [if_pos hc] at hE
      refine (copyT_ok (h.mono hV1) (mayT_lightT hM)).mono ?_
      rintro r V3 ⟨x, rfl, hO⟩
      have hxn := hO.n
      obtain ⟨ad2, ha2, a1, a2⟩ := hO.set (i := i.toNat) (by omega) (n := Nod.zero) (vs := [.int .i64 0, .int .i64 0, .int .i64 0, .slice none 0 0, .slice none 0 0]) fun _ _ => zeroN_rep
      rw [hE]
      exact ⟨x, rfl, fun _ => ⟨by omega, by omega, ad2, ha2, a1, ⟨x, 0, rfl, rfl, a2.slR⟩, hV1.trans a2.le⟩⟩
end Go.Proofs.YtdlgpolngnkiaaaGreatDoor

/- Contract of Rename. -/
namespace Go.Proofs.YtdlgpolngnkiaaaGreatDoor
open Go
theorem entT_ents {t : Tre} {d j : Nat} {l : List Ent} (h : d < t.length) : entsT (entT t d l) j = if j = d then l else entsT t j := by
  unfold entsT
  by_cases e : j = d
  · subst e; rw [if_pos rfl, entT_same h]
  · rw [if_neg e, entT_at e]
theorem lessT_at {t : Tre} {i j : Nat} {held : List Bool} (h : j ≠ i) : (lessT t i held).getD j default = t.getD j default := by
  unfold lessT
  split
  · rw [List.getD_eq_getElem?_getD, List.getElem?_set_ne (fun e => h e.symm), ← List.getD_eq_getElem?_getD]
  · rw [List.getD_eq_getElem?_getD, List.getElem?_set_ne (fun e => h e.symm), ← List.getD_eq_getElem?_getD]
theorem lessT_len (t : Tre) (i : Nat) (held : List Bool) : (lessT t i held).length = t.length := by
  unfold lessT; split <;> simp
theorem has_cut {l : List Ent} {s r : ByteArray} (h : s ≠ r) : hasE (cutE l s) r = hasE l r := by
  rw [Bool.eq_iff_iff, has_true, has_true]
  constructor
  · rintro ⟨e, he, h1⟩; exact ⟨e, (cut_mem.1 he).1, h1⟩
  · rintro ⟨e, he, h1⟩; exact ⟨e, cut_mem.2 ⟨he, fun h2 => h (h2.symm.trans h1)⟩, h1⟩
theorem has_of_at {t : Tre} {p s : ByteArray} {ld : List ByteArray} {d : Nat} (P : Par t p ld d s) : hasE (entsT t d) s = decide (0 ≤ atI (entsT t d) s) := (at_has (mayL_pos P.mayL) s).symm
/-- The entries behind the first step. -/
def E1 (t : Tre) (d : Nat) (n : ByteArray) (f : Nat) : List Ent := if f = d then cutE (entsT t d) n else entsT t f
theorem E1_may {t : Tre} {p q n r : ByteArray} {ld lf : List ByteArray} {d f : Nat} (P : Par t p ld d n) (Q : Par t q lf f r) : mayL (E1 t d n f) = true := by
  unfold E1; split
  · exact mayL_cut P.mayL n
  · exact Q.mayL
theorem E1_has {t : Tre} {p q n r : ByteArray} {ld lf : List ByteArray} {d f : Nat} (_P : Par t p ld d n) (Q : Par t q lf f r) (hne : atI (entsT t f) r ≠ atI (entsT t d) n) : hasE (E1 t d n f) r = decide (0 ≤ atI (entsT t f) r) := by
  unfold E1; split
  · rename_i e; subst e
    rw [has_cut (fun h => hne (by rw [h])), has_of_at Q]
  · exact has_of_at Q
theorem move_ents {t : Tre} {p q n r : ByteArray} {ld lf : List ByteArray} {d f : Nat} (P : Par t p ld d n) (Q : Par t q lf f r) {held : List Bool} (i : Nat) :
    entsT (moveT t d n i f r (atI (entsT t f) r) held) f = if 0 ≤ atI (entsT t f) r then cutE (E1 t d n f) r else E1 t d n f := by
  have h12 := (mayT_all P.may).1
  have hd := P.d12; have hf := Q.d12
  have e1 : entsT (entT t d (cutE (entsT t d) n)) f = E1 t d n f := by rw [entT_ents (by omega)]; rfl
  unfold moveT
  by_cases h : 0 ≤ atI (entsT t f) r
  · rw [if_pos h, if_pos h]
    have hne := cutd_self Q.may (show ¬ atI (entsT t f) r < 0 by omega)
    have : entsT (lessT (entT (entT t d (cutE (entsT t d) n)) f (cutE (entsT (entT t d (cutE (entsT t d) n)) f) r)) (atI (entsT t f) r).toNat held) f = entsT (entT (entT t d (cutE (entsT t d) n)) f (cutE (entsT (entT t d (cutE (entsT t d) n)) f) r)) f := by
      unfold entsT; rw [lessT_at (fun e => hne e.symm)]
    rw [this, entT_ents (by rw [entT_len]; omega), if_pos rfl, e1]
  · rw [if_neg h, if_neg h]; exact e1
theorem move_len (t : Tre) (d : Nat) (n : ByteArray) (i f : Nat) (r : ByteArray) (k : Int) (held : List Bool) : (moveT t d n i f r k held).length = t.length := by
  unfold moveT; split
  · rw [lessT_len, entT_len, entT_len]
  · rw [entT_len]
theorem replaces_ok {a b : Nod} {s e s' e' : Sl} {V : View} (k : NodR V s' e' b) : CallV Tryz.prog 49 ⟨[nodV a s e, nodV b s' e']⟩ V fun r V' => r = .int .i64 (replN a b) ∧ V' = V := by
  refine f49_x ?_
  unfold f49_n
  have hn := k.ents.n
  refine fun _ _ => br_intro (fun h1 => ⟨?_, rfl⟩) (fun h1 => br_intro (fun h2 => ⟨?_, rfl⟩) (fun h2 => br_intro (fun h3 => ⟨?_, rfl⟩) (fun h3 => ⟨?_, rfl⟩)))
  all_goals unfold replN
  · rw [if_pos]
    cases h : decide (a.kind = 2) with
    | false => rw [h] at h1; cases h1
    | true => rw [h] at h1; exact ⟨of_decide_eq_true h, of_decide_eq_false (not_t h1)⟩
  all_goals have h1' : ¬ (a.kind = 2 ∧ b.kind ≠ 2) := (by
    rintro ⟨h, h'⟩
    rw [decide_eq_true h, decide_eq_false h'] at h1; cases h1)
  · rw [if_neg h1', if_pos]
    cases h : decide (a.kind = 2) with
    | true => rw [h] at h2; cases h2
    | false => rw [h] at h2; exact ⟨of_decide_eq_false h, of_decide_eq_true h2⟩
  all_goals have h2' : ¬ (a.kind ≠ 2 ∧ b.kind = 2) := (by
    rintro ⟨h, h'⟩
    rw [decide_eq_false h, decide_eq_true h'] at h2; cases h2)
  · rw [if_neg h1', if_neg h2', if_pos (by have := of_decide_eq_true h3; omega)]
  · rw [if_neg h1', if_neg h2', if_neg (by have := of_decide_eq_false h3; omega)]
theorem rename_ok {s y : Sl} {t : Tre} {p q : ByteArray} {held : List Bool} {V : View} (h : SlR V s t) (hy : SlR V y held) (hp : p.size ≤ 9223372036854775807) (hq' : q.size ≤ 9223372036854775807) (hg : Glo V) : CallV Tryz.prog 20 ⟨[treV s, .string p, .string q, .slice y.a y.n y.c]⟩ V fun r V' => outT V V' r (renameT t p q held) := by
  refine f20_x ?_
  unfold f20_n
  have hn := h.n
  refine fun _ _ => (there_ok h hp hg).mono ?_
  rintro r0 V1 ⟨rfl, hV1⟩
  cases hP : parentT t p with
  | error e =>
    rw [thereV_err hP]
    exact ⟨_, _, _, _, rfl, fun _ => br_intro (fun _ => none_ret (par_err hP) hV1 (by unfold renameT; rw [hP])) (fun h => absurd (of_decide_eq_true (not_f h)) (par_err hP))⟩
  | ok z =>
    obtain ⟨d, n⟩ := z
    obtain ⟨ld, P⟩ := par_of hP
    have hd := P.d12
    have h12 := (mayT_all P.may).1
    rw [thereV_ok hP]
    generalize hi : atI (entsT t d) n = i
    by_cases h0 : i < 0
    · rw [if_pos h0]
      refine ⟨_, _, _, _, rfl, fun _ => br_intro (fun _ => none_ret (by decide) hV1 ?_) (fun h => absurd h (by decide))⟩
      unfold renameT; rw [hP]; dsimp only; rw [if_pos (by rw [hi]; exact h0)]
    rw [if_neg h0]
    obtain ⟨k0, k1, k2, k3, _⟩ := at_kind P.may (d := d) (s := n) (by rw [hi]; exact h0)
    rw [hi] at k1 k2 k3
    refine ⟨_, _, _, _, rfl, fun _ => br_intro (fun h => absurd h (by decide)) (fun _ => (at_ok (h.mono hV1) hq' (hg.mono hV1)).mono ?_)⟩
    rintro r0 V2 ⟨rfl, hV2⟩
    have q2 := hV1.trans hV2
    cases hQ : parentT t q with
    | error e =>
      rw [atV_err hQ]
      refine ⟨_, _, _, _, rfl, fun _ => br_intro (fun _ => none_ret (par_err hQ) q2 ?_) (fun h => absurd (of_decide_eq_true (not_f h)) (par_err hQ))⟩
      unfold renameT; rw [hP]; dsimp only; rw [if_neg (by rw [hi]; exact h0), hQ]
    | ok z =>
      obtain ⟨f, r⟩ := z
      obtain ⟨lf, Q⟩ := par_of hQ
      have hf := Q.d12
      rw [atV_ok hQ]
      have hmv := move_ents P Q (held := held) i.toNat
      have hE1 := E1_has P Q
      have hR : renameT t p q held = if atI (entsT t f) r = i then .ok t else if insideT t i f = true then .error 17 else
          if 0 ≤ atI (entsT t f) r ∧ replN (t.getD i.toNat default) (t.getD (atI (entsT t f) r).toNat default) ≠ 0 then .error (replN (t.getD i.toNat default) (t.getD (atI (entsT t f) r).toNat default)) else
          if 10 ≤ (entsT (moveT t d n i.toNat f r (atI (entsT t f) r) held) f).length then .error 14 else
          .ok (entT (moveT t d n i.toNat f r (atI (entsT t f) r) held) f (insE (entsT (moveT t d n i.toNat f r (atI (entsT t f) r) held) f) ⟨r, i⟩)) := by
        unfold renameT; rw [hP]; dsimp only; rw [hi, if_neg h0, hQ]
      rw [hi] at hE1
      have hkat := Q.at
      have hkk : 0 ≤ atI (entsT t f) r → (atI (entsT t f) r).toNat ≠ f := fun h => cutd_self Q.may (by omega)
      have hmoveE : moveT t d n i.toNat f r (atI (entsT t f) r) held = if 0 ≤ atI (entsT t f) r then lessT (entT (entT t d (cutE (entsT t d) n)) f (cutE (entsT (entT t d (cutE (entsT t d) n)) f) r)) (atI (entsT t f) r).toNat held else entT t d (cutE (entsT t d) n) := rfl
      generalize hk : atI (entsT t f) r = k at *
      refine ⟨_, _, _, _, rfl, fun _ => br_intro (fun h => absurd h (by decide)) (fun _ => br_intro (fun he => ?_) (fun he => ?_))⟩
      · have he := of_decide_eq_true he
        refine (copyT_ok (h.mono q2) (mayT_lightT P.may)).mono ?_
        rintro r0 V3 ⟨x, rfl, hO⟩
        rw [hR, if_pos he]
        exact ⟨x, rfl, ⟨x, 0, rfl, rfl, hO.slR⟩, q2.trans hO.le⟩
      have he := of_decide_eq_false he
      rw [if_neg he] at hR
      refine (inside_ok (h.mono q2)).mono ?_
      rintro r0 V3 ⟨rfl, hV3⟩
      have q3 := q2.trans hV3
      refine ⟨_, rfl, br_intro (fun hin => none_ret (by decide) q3 (by rw [hR, if_pos hin])) (fun hin => ?_)⟩
      rw [if_neg (by rw [hin]; decide)] at hR
      refine (copyT_ok (h.mono q3) (mayT_lightT P.may)).mono ?_
      rintro r0 V4 ⟨x, rfl, hO⟩
      refine ⟨x, rfl, fun b hb => ?_⟩
      obtain ⟨b1, b2⟩ := box_new hO hb
      refine ⟨b1, (leaves_ok b2 (d := d) (by omega) (without_par P (by rw [hi]; exact h0))).mono ?_⟩
      rintro r0 V5 ⟨rfl, h5⟩
      have hnlen := P.size; have hrlen := Q.size
      refine ⟨rfl, ?_⟩
      -- both ways come to a tree moved
      refine joinP_cut (fun _ V' => BoxT V3 V' b x (moveT t d n i.toNat f r k held) ∧ ¬ (0 ≤ k ∧ replN (t.getD i.toNat default) (t.getD k.toNat default) ≠ 0)) (br_intro (fun hk0 => ?_) (fun hk0 => ⟨?_, fun h => (of_decide_eq_false hk0) h.1⟩)) ?_
      · have hk0 := of_decide_eq_true hk0
        have hk12 : 1 ≤ k ∧ k < 12 := by omega
        have hsee := h.mono (q3.trans h5.own.le)
        obtain ⟨ad, sq, en, ha, hc, hN⟩ := hsee.nodN (i := i.toNat) (by omega)
        obtain ⟨ad', sq', en', ha', hc', hN'⟩ := hsee.nodN (i := k.toNat) (by omega)
        refine ⟨trivial, V5, View.Le.refl _, by omega, by omega, ad, ha, _, _, _, sq, en, hc, by omega, by omega, ad', ha', _, _, _, sq', en', hc', (replaces_ok hN').mono ?_⟩
        rintro r0 V6 ⟨rfl, rfl⟩
        refine ⟨_, rfl, br_intro (fun hb => ?_) (fun hb => ?_)⟩
        · have hb := of_decide_eq_false (not_t hb)
          exact none_ret hb (q3.trans h5.own.le) (by rw [hR, if_pos ⟨hk0, hb⟩])
        have hb := of_decide_eq_true (not_f hb)
        have hw : withoutE (entsT (entT t d (cutE (entsT t d) n)) f) r = .ok (cutE (entsT (entT t d (cutE (entsT t d) n)) f) r) := by
          have e1 : entsT (entT t d (cutE (entsT t d) n)) f = E1 t d n f := by rw [entT_ents (by omega)]; rfl
          rw [e1]
          exact without_ok_of (E1_may P Q) (by rw [hE1 he, decide_eq_true hk0])
        refine (leaves_ok h5 (d := f) (by rw [entT_len]; omega) hw).mono ?_
        rintro r0 V7 ⟨rfl, h7⟩
        rw [int_nat hk12.1]
        have hlk : 0 ≤ ((entT (entT t d (cutE (entsT t d) n)) f (cutE (entsT (entT t d (cutE (entsT t d) n)) f) r)).getD k.toNat default).links := by
          rw [entT_at (hkk hk0)]
          by_cases e : k.toNat = d
          · rw [e, entT_same (by omega)]; exact (file_links P.may hd).1
          · rw [entT_at e]; exact (file_links P.may (by omega)).1
        refine ⟨rfl, (less_ok h7 (i := k.toNat) (by rw [entT_len, entT_len]; omega) hlk (hy.mono q3)).mono ?_⟩
        rintro r0 V8 ⟨rfl, h8⟩
        refine ⟨rfl, ?_, fun h => h.2 hb⟩
        rw [hmoveE, if_pos hk0]; exact h8
      · have hk0 := of_decide_eq_false hk0
        rw [hmoveE, if_neg hk0]; exact h5
      · rintro ⟨⟩ V6 ⟨h6, hcond⟩
        rw [if_neg hcond] at hR
        have hmay : mayL (entsT (moveT t d n i.toNat f r k held) f) = true := by
          rw [hmv]; split
          · exact mayL_cut (E1_may P Q) r
          · exact E1_may P Q
        have hhas : hasE (entsT (moveT t d n i.toNat f r k held) f) r = false := by
          rw [hmv]; split
          · exact cut_has _ _
          · rename_i hk0; rw [hE1 he, decide_eq_false hk0]
        have hwith : withE (entsT (moveT t d n i.toNat f r k held) f) ⟨r, i⟩ = if 10 ≤ (entsT (moveT t d n i.toNat f r k held) f).length then .error 14 else .ok (insE (entsT (moveT t d n i.toNat f r k held) f) ⟨r, i⟩) := by
          rw [with_ok_of hmay (by unfold soleE; rw [show mayB (⟨r, i⟩ : Ent).name = true from Q.sole, decide_eq_true (show 1 ≤ (⟨r, i⟩ : Ent).node from k1), decide_eq_true (show (⟨r, i⟩ : Ent).node < 12 from k2)]; rfl)]
          rw [if_neg (by show ¬ hasE _ r = true; rw [hhas]; decide)]
        refine (enters_ok h6 (d := f) (by rw [move_len]; omega) (by omega) (inI64 (by omega) (by omega)) hwith (fun c hc => ?_)).mono ?_
        · split at hc <;> cases hc; decide
        rintro r0 V7 ⟨h7, h7e, hle7⟩
        by_cases hfull : 10 ≤ (entsT (moveT t d n i.toNat f r k held) f).length
        · rw [if_pos hfull] at hR
          obtain rfl := h7e 14 (if_pos hfull)
          exact ⟨_, rfl, br_intro (fun _ => none_ret (by decide) (q3.trans hle7) hR) (fun h => absurd h (by decide))⟩
        · rw [if_neg hfull] at hR
          obtain ⟨rfl, hb7⟩ := h7 _ (if_neg hfull)
          rw [hR]
          exact ⟨_, rfl, br_intro (fun h => absurd h (by decide)) (fun _ => ⟨x, hb7.cells, ⟨x, 0, rfl, rfl, hb7.own.slR⟩, q3.trans hb7.own.le⟩)⟩
end Go.Proofs.YtdlgpolngnkiaaaGreatDoor
