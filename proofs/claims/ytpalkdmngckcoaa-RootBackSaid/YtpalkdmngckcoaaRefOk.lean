/- Contracts of the reference: entries, nodes, names; which inputs are light. -/
import Derived.Test.YtpalkdmngckcoaaNameOk
import Derived.Test.YtpalkdmngckcoaaNamesOk
namespace Go.Proofs.Ytpalkdmngckcoaa
open Go
theorem refL_ok {s : Sl} {l : List Ent} {V : View} (h : SlR V s l) : CallV Try.prog 66 ⟨[.slice s.a s.n s.c]⟩ V fun r V' => r = .bool (mayL l) ∧ V' = V := by
  refine f66_x ?_
  unfold f66_n
  have hn := h.n; have hc := h.c; have hm := h.lim
  refine br_intro (fun h10 => ⟨?_, rfl⟩) (fun h10 => ?_)
  · have h10 := of_decide_eq_true h10
    unfold mayL
    rw [decide_eq_false (show ¬ l.length ≤ 10 by omega), Bool.and_false]
  have h10 := of_decide_eq_false h10
  have e10 : mayL l = (List.range l.length).all (okE l) := by
    unfold mayL
    rw [decide_eq_true (show l.length ≤ 10 by omega), Bool.and_true]
  rw [e10]
  refine loop1 (k := .int .i64) (fun (x : Int) V' => V' = V ∧ ∃ i : Nat, x = i ∧ i ≤ l.length ∧ (List.range i).all (okE l) = true) (fun (x : Int) _ => s.n - x.toNat) ⟨rfl, 0, rfl, by omega, rfl⟩ ?_
  rintro (x : Int) V' ⟨rfl, i, rfl, hi, hall⟩
  refine br_intro (fun hlt => ?_) (fun hge => ?_)
  · have hlt : i < l.length := by have := of_decide_eq_true hlt; omega
    obtain ⟨ad, ha, hcell, hsz, hin⟩ := h.entN hlt
    refine ⟨by omega, by omega, ad, ha, _, _, hcell, fun _ => ?_⟩
    refine joinP_cut (fun q V1 => q.1 = (!okE l i) ∧ V1 = V') ⟨trivial, V', View.Le.refl _, (refName_ok hsz).mono ?_⟩ ?_
    · rintro r V1 ⟨rfl, rfl⟩
      have d1 : decide ((l.getD i default).node < 1) = !decide (1 ≤ (l.getD i default).node) := dec_not (by omega)
      have d2 : decide ((12 : Int) ≤ (l.getD i default).node) = !decide ((l.getD i default).node < 12) := dec_not (by omega)
      rw [d1, d2]
      refine ⟨_, rfl, View.Le.refl _, V1, View.Le.refl _, View.Le.refl _, br_intro (fun hs => ⟨?_, rfl⟩) (fun hs => br_intro (fun h0 => ?_) (fun h0 => ⟨?_, rfl⟩))⟩
      · unfold okE soleE; rw [not_t hs]; rfl
      · have h0 : 0 < i := by have := of_decide_eq_true h0; omega
        obtain ⟨j, rfl⟩ : ∃ j, i = j + 1 := ⟨i - 1, by omega⟩
        obtain ⟨ad2, ha2, hcell2, _, _⟩ := h.entN (i := j) (by omega)
        have e1 : (((j + 1 : Nat) : Int) - 1).toNat = j := by omega
        refine ⟨inI64 (by omega) (by omega), by omega, by omega, ad2, ha2, (l.getD j default).name, ?_, ?_, rfl⟩
        · rw [e1]; exact cellsAt_nth hcell2 0 rfl
        · unfold okE soleE
          rw [not_f hs, decide_eq_false (show ¬ j + 1 = 0 by omega), Nat.add_sub_cancel]
          generalize sLess (l.getD j default).name (l.getD (j + 1) default).name = g1
          cases decide (1 ≤ (l.getD (j + 1) default).node) <;> cases decide ((l.getD (j + 1) default).node < 12) <;> cases g1 <;> rfl
      · have h0 : i = 0 := by have := of_decide_eq_false h0; omega
        subst h0
        unfold okE soleE
        rw [not_f hs]
        cases decide (1 ≤ (l.getD 0 default).node) <;> cases decide ((l.getD 0 default).node < 12) <;> rfl
    · rintro ⟨q, ⟨⟩⟩ V1 ⟨h1, hV⟩
      simp only at h1 hV
      subst h1 hV
      dsimp only [unc]
      refine br_intro (fun hb => ⟨?_, rfl⟩) (fun hb => ⟨inI64 (by omega) (by omega), ⟨rfl, i + 1, by omega, by omega, all_step hall (by simpa using hb)⟩, by omega⟩)
      rw [all_stop hlt (by simpa using hb)]
  · have hge : i = l.length := by have := of_decide_eq_false hge; omega
    subst hge
    exact ⟨by rw [hall], rfl⟩
theorem refN_ok {n : Nod} {s e : Sl} {V : View} (h : NodR V s e n) : CallV Try.prog 40 ⟨[nodV n s e]⟩ V fun r V' => r = .bool (mayN n) ∧ V' = V := by
  refine f40_x ?_
  unfold f40_n
  have hsn := h.seqs.n; have hen := h.ents.n
  have e1 : decide (((s.n : Nat) : Int) = 0) = decide (n.seqs.length = 0) := decide_eq_decide.2 (by omega)
  have e2 : decide (((e.n : Nat) : Int) = 0) = decide (n.ents.length = 0) := decide_eq_decide.2 (by omega)
  have e3 : decide (((s.n : Nat) : Int) = 5) = decide (n.seqs.length = 5) := decide_eq_decide.2 (by omega)
  rw [e1, e2, e3]
  refine fun _ => br_intro (fun h0 => ⟨?_, rfl⟩) (fun h0 => br_intro (fun h2 => ?_) (fun h2 => br_intro (fun h1 => ?_) (fun h1 => ⟨?_, rfl⟩)))
  · have h0 : n.kind = 0 := of_decide_eq_true h0
    unfold mayN; rw [if_pos h0]
    cases decide (n.links = 0) <;> cases decide (n.size = 0) <;> cases decide (n.seqs.length = 0) <;> rfl
  · have h0 : ¬ n.kind = 0 := of_decide_eq_false h0
    have h2 : n.kind = 2 := of_decide_eq_true h2
    have h1 : ¬ n.kind = 1 := by omega
    have hm : mayN n = (decide (n.links = 1) && decide (n.size = 0) && decide (n.seqs.length = 0) && mayL n.ents) := by unfold mayN; rw [if_neg h0, if_neg h1, if_pos h2]
    refine joinP_cut (fun q V1 => q.1 = mayN n ∧ V1 = V) (br_intro (fun hb => (refL_ok h.ents).mono ?_) (fun hb => ⟨?_, rfl⟩)) ?_
    · rintro r V1 ⟨rfl, rfl⟩
      refine ⟨_, rfl, ?_, rfl⟩
      rw [hm]
      cases hA : decide (n.links = 1) <;> cases hB : decide (n.size = 0) <;> cases hC : decide (n.seqs.length = 0) <;> simp_all
    · rw [hm]
      cases hA : decide (n.links = 1) <;> cases hB : decide (n.size = 0) <;> cases hC : decide (n.seqs.length = 0) <;> simp_all
    · rintro ⟨q, ⟨⟩⟩ V1 ⟨h1, hV⟩
      simp only at h1 hV
      subst h1 hV
      exact ⟨rfl, rfl⟩
  · have h0 : ¬ n.kind = 0 := of_decide_eq_false h0
    have h1 : n.kind = 1 := of_decide_eq_true h1
    have hm : mayN n = fileB n := by unfold mayN; rw [if_neg h0, if_pos h1]
    rw [hm]
    have d1 : decide (n.links < 0) = !decide (0 ≤ n.links) := dec_not (by omega)
    have d2 : decide ((120 : Int) < n.links) = !decide (n.links ≤ 120) := dec_not (by omega)
    have d3 : decide (n.size < 0) = !decide (0 ≤ n.size) := dec_not (by omega)
    have d4 : decide ((80 : Int) < n.size) = !decide (n.size ≤ 80) := dec_not (by omega)
    rw [d1, d2, d3, d4]
    have hcond : (bif bif bif bif bif !decide (0 ≤ n.links) then true else !decide (n.links ≤ 120) then true else !decide (0 ≤ n.size) then true else !decide (n.size ≤ 80) then true else !decide (n.seqs.length = 5) then true else !decide (n.ents.length = 0)) = !(within n.links 120 && within n.size 80 && decide (n.seqs.length = 5) && decide (n.ents.length = 0)) := by
      unfold within
      cases decide (0 ≤ n.links) <;> cases decide (n.links ≤ 120) <;> cases decide (0 ≤ n.size) <;> cases decide (n.size ≤ 80) <;> cases decide (n.seqs.length = 5) <;> cases decide (n.ents.length = 0) <;> rfl
    rw [hcond]
    refine br_intro (fun hb => ⟨?_, rfl⟩) (fun hb => ?_)
    · have hb := not_t hb
      unfold fileB; rw [hb]; rfl
    · have hb := not_f hb
      have h5 : n.seqs.length = 5 := by simp at hb; exact hb.1.2
      refine loop1 (k := .int .i64) (fun (x : Int) V' => V' = V ∧ ∃ i : Nat, x = i ∧ i ≤ n.seqs.length ∧ (List.range i).all (okS n.size n.seqs) = true) (fun (x : Int) _ => s.n - x.toNat) ⟨rfl, 0, rfl, by omega, rfl⟩ ?_
      rintro (x : Int) V' ⟨rfl, i, rfl, hi, hall⟩
      refine br_intro (fun hlt => ?_) (fun hge => ?_)
      · have hlt : i < n.seqs.length := by have := of_decide_eq_true hlt; omega
        obtain ⟨ad, ha, hcell, hin⟩ := h.seqs.intN hlt
        refine ⟨by omega, by omega, ad, ha, _, hcell, ?_⟩
        have d5 : decide (n.seqs.getD i 0 < 0) = !decide (0 ≤ n.seqs.getD i 0) := dec_not (by omega)
        have d6 : decide ((1099511627776 : Int) < n.seqs.getD i 0) = !decide (n.seqs.getD i 0 ≤ 1099511627776) := dec_not (by omega)
        rw [d5, d6]
        have hok : okS n.size n.seqs i = ((decide (0 ≤ n.seqs.getD i 0) && decide (n.seqs.getD i 0 ≤ 1099511627776)) && !(decide (n.size ≤ (i : Int) * 16) && !decide (n.seqs.getD i 0 = 0))) := rfl
        refine joinP_cut (fun q V1 => q.1 = (!okS n.size n.seqs i) ∧ V1 = V') (br_intro (fun hc => ⟨?_, rfl⟩) (fun hc => br_intro (fun hz => ⟨inI64 (by omega) (by omega), ?_, rfl⟩) (fun hz => ⟨?_, rfl⟩))) ?_
        · rw [hok]
          cases hA : decide (0 ≤ n.seqs.getD i 0) <;> cases hB : decide (n.seqs.getD i 0 ≤ 1099511627776) <;> rw [hA, hB] at hc <;> first | rfl | cases hc
        · rw [hok, not_t hz]
          cases hA : decide (0 ≤ n.seqs.getD i 0) <;> cases hB : decide (n.seqs.getD i 0 ≤ 1099511627776) <;> rw [hA, hB] at hc <;> first | (cases decide (n.size ≤ (i : Int) * 16) <;> rfl) | cases hc
        · rw [hok, not_f hz]
          cases hA : decide (0 ≤ n.seqs.getD i 0) <;> cases hB : decide (n.seqs.getD i 0 ≤ 1099511627776) <;> rw [hA, hB] at hc <;> first | (cases decide (n.size ≤ (i : Int) * 16) <;> rfl) | cases hc
        · rintro ⟨q, ⟨⟩⟩ V2 ⟨h1, hV⟩
          simp only at h1 hV
          subst h1 hV
          dsimp only [unc]
          refine br_intro (fun hq => ⟨?_, rfl⟩) (fun hq => ⟨inI64 (by omega) (by omega), ⟨rfl, i + 1, by omega, by omega, all_step hall (by simpa using hq)⟩, by omega⟩)
          unfold fileB
          rw [all_stop hlt (by simpa using hq), Bool.and_false]
      · have hge : i = n.seqs.length := by have := of_decide_eq_false hge; omega
        subst hge
        refine ⟨?_, rfl⟩
        unfold fileB; rw [hb, hall]; rfl
  · have h0 : ¬ n.kind = 0 := of_decide_eq_false h0
    have h1 : ¬ n.kind = 1 := of_decide_eq_false h1
    have h2 : ¬ n.kind = 2 := of_decide_eq_false h2
    unfold mayN; rw [if_neg h0, if_neg h1, if_neg h2]
theorem wrap_of_in {n : Int} (h : inI .i64 n) : IntKind.wrap .i64 n = n := by
  have h := inI64_iff.1 h
  unfold IntKind.wrap
  simp [IntKind.signed, IntKind.bits]
  omega
/-! ### which inputs are light -/
theorem light13_ok {s : Sl} {l : List Ent} {V : View} (h : SlR V s l) : CallV Try.prog 65 ⟨[.slice s.a s.n s.c]⟩ V fun r V' => ∃ x : Int, r = .int .i64 x ∧ 0 ≤ x ∧ x ≤ 1 ∧ V' = V := by
  refine f65_x ?_
  unfold f65_n
  have hn := h.n; have hm := h.lim
  refine loop2 (k := .int .i64) (l := .int .i64) (fun (x : Int) (j : Int) V' => V' = V ∧ ∃ i : Nat, j = i ∧ i ≤ l.length) (fun _ (j : Int) _ => s.n - j.toNat) ⟨rfl, 0, rfl, by omega⟩ ?_
  rintro (x : Int) (j : Int) V' ⟨rfl, i, rfl, hi⟩
  refine br_intro (fun hlt => ?_) (fun hge => br_intro (fun _ => ⟨1, rfl, by decide, by decide, rfl⟩) (fun _ => ⟨0, rfl, by decide, by decide, rfl⟩))
  have hlt : i < l.length := by have := of_decide_eq_true hlt; omega
  obtain ⟨ad, ha, hcell, _, _⟩ := h.entN hlt
  have hw : IntKind.wrap .i64 ((i : Int) + 1) = (i : Int) + 1 := wrap_of_in (inI64 (by omega) (by omega))
  refine ⟨by omega, by omega, ad, ha, _, _, hcell, fun _ => ?_⟩
  rw [hw]
  exact ⟨⟨rfl, i + 1, by omega, by omega⟩, by omega⟩
theorem light14_ok {n : Nod} {s e : Sl} {V : View} (h : NodR V s e n) : CallV Try.prog 39 ⟨[nodV n s e]⟩ V fun r V' => ∃ x : Int, r = .int .i64 x ∧ 0 ≤ x ∧ x ≤ 1 ∧ V' = V := by
  refine f39_x ?_
  unfold f39_n
  refine fun _ => br_intro (fun _ => ⟨1, rfl, by decide, by decide, rfl⟩) (fun _ => (light13_ok h.ents).mono ?_)
  rintro r V' ⟨x, rfl, h1, h2, rfl⟩
  exact ⟨x, rfl, x, rfl, h1, h2, rfl⟩
theorem light15_ok {s : Sl} {t : Tre} {V : View} (h : SlR V s t) : CallV Try.prog 12 ⟨[treV s]⟩ V fun r V' => ∃ x : Int, r = .int .i64 x ∧ 0 ≤ x ∧ x ≤ 40 ∧ (x = 0 → t.length ≤ 40) ∧ V' = V := by
  refine f12_x ?_
  unfold f12_n
  have hn := h.n
  refine fun _ => br_intro (fun _ => ⟨1, rfl, by decide, by decide, fun h => absurd h (by decide), rfl⟩) (fun h40 => ?_)
  have h40 := of_decide_eq_false h40
  refine loop2 (k := .int .i64) (l := .int .i64) (fun (x : Int) (j : Int) V' => V' = V ∧ ∃ i : Nat, j = i ∧ i ≤ t.length ∧ 0 ≤ x ∧ x ≤ i) (fun _ (j : Int) _ => s.n - j.toNat) ⟨rfl, 0, rfl, by omega, by omega, by omega⟩ ?_
  rintro (x : Int) (j : Int) V' ⟨rfl, i, rfl, hi, h0, h1⟩
  refine br_intro (fun hlt => ?_) (fun hge => ⟨x, rfl, h0, by omega, fun _ => by omega, rfl⟩)
  have hlt : i < t.length := by have := of_decide_eq_true hlt; omega
  obtain ⟨ad, sq, en, ha, hc, hN⟩ := h.nodN hlt
  refine ⟨by omega, by omega, ad, ha, _, _, _, sq, en, hc, fun _ => (light14_ok hN).mono ?_⟩
  rintro r V1 ⟨y, rfl, y0, y1, rfl⟩
  exact ⟨y, rfl, inI64 (by omega) (by omega), inI64 (by omega) (by omega), ⟨rfl, i + 1, by omega, by omega, by omega, by omega⟩, by omega⟩
end Go.Proofs.Ytpalkdmngckcoaa
