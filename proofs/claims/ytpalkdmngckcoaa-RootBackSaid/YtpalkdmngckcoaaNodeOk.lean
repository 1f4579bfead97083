/- Contracts of what tells whether nodes may be. -/
import Derived.Test.YtpalkdmngckcoaaMayOk
import Derived.Test.YtpalkdmngckcoaaDirLaw
namespace Go.Proofs.Ytpalkdmngckcoaa
open Go
theorem dec_not {p q : Prop} [Decidable p] [Decidable q] (h : p ↔ ¬ q) : decide p = !decide q := by
  by_cases hq : q <;> simp [h, hq]
theorem not_t {b : Bool} (h : (!b) = true) : b = false := by cases b <;> simp_all
theorem not_f {b : Bool} (h : (!b) = false) : b = true := by cases b <;> simp_all
theorem SlR.entN {V : View} {s : Sl} {l : List Ent} (h : SlR V s l) {i : Nat} (hi : i < l.length) :
    ∃ ad, s.a = some ad ∧ cellsAt V (ad.add (i * 2)) [.string (l.getD i default).name, .int .i64 (l.getD i default).node] ∧ (l.getD i default).name.size ≤ 9223372036854775807 ∧ inI .i64 (l.getD i default).node := by
  obtain ⟨ad, hx, ha, hc, h1, h2⟩ := h.ent (x := (i : Int)) (by omega) (by have := h.n; omega)
  rw [getD_at hi]
  exact ⟨ad, ha, hc, h1, h2⟩
theorem SlR.intN {V : View} {s : Sl} {l : List Int} (h : SlR V s l) {i : Nat} (hi : i < l.length) :
    ∃ ad, s.a = some ad ∧ V.cell? (ad.add (i * 1)) = some (.int .i64 (l.getD i 0)) ∧ inI .i64 (l.getD i 0) := by
  obtain ⟨ad, hx, ha, hc, h1⟩ := h.int (x := (i : Int)) (by omega) (by have := h.n; omega)
  rw [getD_at0 hi]
  exact ⟨ad, ha, hc, h1⟩
theorem SlR.nodN {V : View} {s : Sl} {l : List Nod} (h : SlR V s l) {i : Nat} (hi : i < l.length) :
    ∃ ad sq en, s.a = some ad ∧ cellsAt V (ad.add (i * 5)) [.int .i64 (l.getD i default).kind, .int .i64 (l.getD i default).links, .int .i64 (l.getD i default).size, .slice sq.a sq.n sq.c, .slice en.a en.n en.c] ∧ NodR V sq en (l.getD i default) := by
  obtain ⟨ad, sq, en, hx, ha, hc, h1⟩ := h.nod (x := (i : Int)) (by omega) (by have := h.n; omega)
  rw [getD_at hi]
  exact ⟨ad, sq, en, ha, hc, h1⟩
theorem all_step {P : Nat → Bool} {i : Nat} (h : (List.range i).all P = true) (hp : P i = true) : (List.range (i + 1)).all P = true := by
  rw [List.range_succ, List.all_append, h]; simp [hp]
theorem all_stop {P : Nat → Bool} {i n : Nat} (h : i < n) (hp : P i = false) : (List.range n).all P = false := by
  rw [List.all_eq_false]
  exact ⟨i, List.mem_range.2 h, by simp [hp]⟩
/-- A node as an argument. -/
def nodV (n : Nod) (s e : Sl) : Value := .agg ⟨[.int .i64 n.kind, .int .i64 n.links, .int .i64 n.size, .slice s.a s.n s.c, .slice e.a e.n e.c]⟩
def entV (x : Ent) : Value := .agg ⟨[.string x.name, .int .i64 x.node]⟩
def treV (s : Sl) : Value := .agg ⟨[.slice s.a s.n s.c]⟩
theorem within_ok {a b : Int} {V : View} : CallV Try.prog 67 ⟨[.int .i64 a, .int .i64 b]⟩ V fun r V' => r = .bool (within a b) ∧ V' = V := by
  refine f67_x ?_
  unfold f67_n
  refine ⟨?_, rfl⟩
  unfold within
  cases decide (0 ≤ a) <;> rfl
theorem sole_ok {x : Ent} {V : View} (hx : x.name.size ≤ 9223372036854775807) : CallV Try.prog 80 ⟨[entV x]⟩ V fun r V' => r = .bool (soleE x) ∧ V' = V := by
  refine f80_x ?_
  unfold f80_n
  refine fun _ => (pathMay_ok hx).mono ?_
  rintro r V' ⟨rfl, rfl⟩
  refine ⟨_, rfl, ?_, rfl⟩
  unfold soleE
  cases mayB x.name <;> cases decide (1 ≤ x.node) <;> rfl
theorem mayL_ok {s : Sl} {l : List Ent} {V : View} (h : SlR V s l) : CallV Try.prog 64 ⟨[.slice s.a s.n s.c]⟩ V fun r V' => r = .bool (mayL l) ∧ V' = V := by
  refine f64_x ?_
  unfold f64_n
  have hn := h.n; have hc := h.c; have hm := h.lim
  refine loop1 (k := .int .i64) (fun (x : Int) V' => V' = V ∧ ∃ i : Nat, x = i ∧ i ≤ l.length ∧ (List.range i).all (okE l) = true) (fun (x : Int) _ => s.n - x.toNat) ⟨rfl, 0, rfl, by omega, rfl⟩ ?_
  rintro (x : Int) V' ⟨rfl, i, rfl, hi, hall⟩
  refine br_intro (fun hlt => ?_) (fun hge => ?_)
  · have hlt : i < l.length := by have := of_decide_eq_true hlt; omega
    obtain ⟨ad, ha, hcell, hsz, hin⟩ := h.entN hlt
    refine ⟨by omega, by omega, ad, ha, _, _, hcell, fun _ => ?_⟩
    refine joinP_cut (fun q V1 => q.1 = (!okE l i) ∧ V1 = V') ⟨trivial, V', View.Le.refl _, (sole_ok (x := l.getD i default) hsz).mono ?_⟩ ?_
    · rintro r V1 ⟨rfl, rfl⟩
      refine ⟨_, rfl, View.Le.refl _, V1, View.Le.refl _, View.Le.refl _, br_intro (fun hs => ⟨?_, rfl⟩) (fun hs => br_intro (fun h0 => ?_) (fun h0 => ⟨?_, rfl⟩))⟩
      · have hs : soleE (l.getD i default) = false := by simpa using hs
        unfold okE; rw [hs]; rfl
      · have h0 : 0 < i := by have := of_decide_eq_true h0; omega
        have hs : soleE (l.getD i default) = true := by simpa using hs
        obtain ⟨j, rfl⟩ : ∃ j, i = j + 1 := ⟨i - 1, by omega⟩
        obtain ⟨ad2, ha2, hcell2, _, _⟩ := h.entN (i := j) (by omega)
        have e1 : (((j + 1 : Nat) : Int) - 1).toNat = j := by omega
        refine ⟨inI64 (by omega) (by omega), by omega, by omega, ad2, ha2, (l.getD j default).name, ?_, ?_, rfl⟩
        · rw [e1]; exact cellsAt_nth hcell2 0 rfl
        · unfold okE; rw [hs]; simp
      · have h0 : i = 0 := by have := of_decide_eq_false h0; omega
        have hs : soleE (l.getD i default) = true := by simpa using hs
        unfold okE; rw [hs, h0]; rfl
    · rintro ⟨q, ⟨⟩⟩ V1 ⟨h1, hV⟩
      simp only at h1 hV
      subst h1 hV
      dsimp only [unc]
      refine br_intro (fun hb => ⟨?_, rfl⟩) (fun hb => ⟨inI64 (by omega) (by omega), ⟨rfl, i + 1, by omega, by omega, all_step hall (by simpa using hb)⟩, by omega⟩)
      unfold mayL
      rw [all_stop hlt (by simpa using hb)]; rfl
  · have hge : i = l.length := by have := of_decide_eq_false hge; omega
    subst hge
    refine ⟨?_, rfl⟩
    unfold mayL
    rw [hall, hn, Bool.true_and]
    congr 1
    exact decide_eq_decide.2 (by omega)
theorem fileB_ok {n : Nod} {s e : Sl} {V : View} (h : NodR V s e n) : CallV Try.prog 63 ⟨[nodV n s e]⟩ V fun r V' => r = .bool (fileB n) ∧ V' = V := by
  refine f63_x ?_
  unfold f63_n
  have hsn := h.seqs.n; have hen := h.ents.n
  refine fun _ => joinP_cut (fun q V1 => q.1 = !(within n.links 120 && within n.size 80 && decide (n.seqs.length = 5) && decide (n.ents.length = 0)) ∧ V1 = V) (within_ok.mono ?_) ?_
  · rintro r V1 ⟨rfl, rfl⟩
    refine ⟨_, rfl, br_intro (fun h1 => ⟨?_, rfl⟩) (fun h1 => within_ok.mono ?_)⟩
    · have h1 : within n.links 120 = false := by simpa using h1
      rw [h1]; rfl
    · have h1 : within n.links 120 = true := by simpa using h1
      rintro r V2 ⟨rfl, rfl⟩
      refine ⟨_, rfl, ?_, rfl⟩
      rw [h1, hsn, hen]
      have e1 : decide (((n.seqs.length : Nat) : Int) = 5) = decide (n.seqs.length = 5) := decide_eq_decide.2 (by omega)
      have e2 : decide ((0 : Int) < ((n.ents.length : Nat) : Int)) = !decide (n.ents.length = 0) := dec_not (by omega)
      rw [e1, e2]
      cases within n.size 80 <;> cases decide (n.seqs.length = 5) <;> cases decide (n.ents.length = 0) <;> rfl
  · rintro ⟨q, ⟨⟩⟩ V1 ⟨h1, hV⟩
    simp only at h1 hV
    subst h1 hV
    dsimp only [unc]
    refine br_intro (fun hb => ⟨?_, rfl⟩) (fun hb => ?_)
    · have hb : (within n.links 120 && within n.size 80 && decide (n.seqs.length = 5) && decide (n.ents.length = 0)) = false := not_t hb
      unfold fileB; rw [hb]; rfl
    · have hb : (within n.links 120 && within n.size 80 && decide (n.seqs.length = 5) && decide (n.ents.length = 0)) = true := not_f hb
      have h5 : n.seqs.length = 5 := by simp at hb; exact hb.1.2
      refine loop1 (k := .int .i64) (fun (x : Int) V' => V' = V1 ∧ ∃ i : Nat, x = i ∧ i ≤ n.seqs.length ∧ (List.range i).all (okS n.size n.seqs) = true) (fun (x : Int) _ => s.n - x.toNat) ⟨rfl, 0, rfl, by omega, rfl⟩ ?_
      rintro (x : Int) V' ⟨rfl, i, rfl, hi, hall⟩
      refine br_intro (fun hlt => ?_) (fun hge => ?_)
      · have hlt : i < n.seqs.length := by have := of_decide_eq_true hlt; omega
        obtain ⟨ad, ha, hcell, hin⟩ := h.seqs.intN hlt
        refine ⟨by omega, by omega, ad, ha, _, hcell, ?_⟩
        refine joinP_cut (fun q V1 => q.1 = (!okS n.size n.seqs i) ∧ V1 = V') (within_ok.mono ?_) ?_
        · rintro r V2 ⟨rfl, rfl⟩
          refine ⟨_, rfl, br_intro (fun h1 => ⟨?_, rfl⟩) (fun h1 => ⟨inI64 (by omega) (by omega), ?_, rfl⟩)⟩
          · have h1 : within (n.seqs.getD i 0) 1099511627776 = false := by simpa using h1
            unfold okS; rw [h1]; rfl
          · have h1 : within (n.seqs.getD i 0) 1099511627776 = true := by simpa using h1
            unfold okS; rw [h1]
            cases decide (n.size ≤ (i : Int) * 16) <;> cases decide (n.seqs.getD i 0 = 0) <;> rfl
        · rintro ⟨q, ⟨⟩⟩ V2 ⟨h1, hV⟩
          simp only at h1 hV
          subst h1 hV
          dsimp only [unc]
          refine br_intro (fun hq => ⟨?_, rfl⟩) (fun hq => ⟨inI64 (by omega) (by omega), ⟨rfl, i + 1, by omega, by omega, all_step hall (by simpa using hq)⟩, by omega⟩)
          unfold fileB
          rw [all_stop hlt (by simpa using hq), Bool.and_false]
      · have hge : i = n.seqs.length := by have := of_decide_eq_false hge; omega
        subst hge
        refine ⟨?_, rfl⟩
        unfold fileB; rw [hb, hall]; rfl
theorem mayN_ok {n : Nod} {s e : Sl} {V : View} (h : NodR V s e n) : CallV Try.prog 34 ⟨[nodV n s e]⟩ V fun r V' => r = .bool (mayN n) ∧ V' = V := by
  refine f34_x ?_
  unfold f34_n
  have hsn := h.seqs.n; have hen := h.ents.n
  have e1 : decide (((s.n : Nat) : Int) = 0) = decide (n.seqs.length = 0) := decide_eq_decide.2 (by omega)
  have e2 : decide (((e.n : Nat) : Int) = 0) = decide (n.ents.length = 0) := decide_eq_decide.2 (by omega)
  rw [e1, e2]
  refine fun _ => br_intro (fun h0 => ⟨?_, rfl⟩) (fun h0 => br_intro (fun h1 => (fileB_ok h).mono ?_) (fun h1 => br_intro (fun h2 => ?_) (fun h2 => ⟨?_, rfl⟩)))
  · have h0 : n.kind = 0 := of_decide_eq_true h0
    unfold mayN; rw [if_pos h0]
    cases decide (n.links = 0) <;> cases decide (n.size = 0) <;> cases decide (n.seqs.length = 0) <;> rfl
  · have h0 : ¬ n.kind = 0 := of_decide_eq_false h0
    have h1 : n.kind = 1 := of_decide_eq_true h1
    rintro r V1 ⟨rfl, rfl⟩
    refine ⟨_, rfl, ?_, rfl⟩
    unfold mayN; rw [if_neg h0, if_pos h1]
  · have h0 : ¬ n.kind = 0 := of_decide_eq_false h0
    have h1 : ¬ n.kind = 1 := of_decide_eq_false h1
    have h2 : n.kind = 2 := of_decide_eq_true h2
    have hm : mayN n = (decide (n.links = 1) && decide (n.size = 0) && decide (n.seqs.length = 0) && mayL n.ents) := by unfold mayN; rw [if_neg h0, if_neg h1, if_pos h2]
    refine joinP_cut (fun q V1 => q.1 = mayN n ∧ V1 = V) (br_intro (fun hb => (mayL_ok h.ents).mono ?_) (fun hb => ⟨?_, rfl⟩)) ?_
    · rintro r V1 ⟨rfl, rfl⟩
      refine ⟨_, rfl, ?_, rfl⟩
      rw [hm]
      cases hA : decide (n.links = 1) <;> cases hB : decide (n.size = 0) <;> cases hC : decide (n.seqs.length = 0) <;> simp_all
    · rw [hm]
      cases hA : decide (n.links = 1) <;> cases hB : decide (n.size = 0) <;> cases hC : decide (n.seqs.length = 0) <;> simp_all
    · rintro ⟨q, ⟨⟩⟩ V1 ⟨h1, hV⟩
      simp only at h1 hV
      subst h1 hV
      exact ⟨rfl, rfl⟩
  · have h0 : ¬ n.kind = 0 := of_decide_eq_false h0
    have h1 : ¬ n.kind = 1 := of_decide_eq_false h1
    have h2 : ¬ n.kind = 2 := of_decide_eq_false h2
    unfold mayN; rw [if_neg h0, if_neg h1, if_neg h2]
end Go.Proofs.Ytpalkdmngckcoaa
