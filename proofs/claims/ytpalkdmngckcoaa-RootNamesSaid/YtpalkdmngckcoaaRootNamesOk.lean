/- RootNames: refs of a tree name each page once, each Seq once; as many as its files have. -/
import Derived.Test.YtpalkdmngckcoaaAwakeOk
import Derived.Test.YtpalkdmngckcoaaRefMayOk
import Derived.Test.YtpalkdmngckcoaaBackLaw
namespace Go.Proofs.Ytpalkdmngckcoaa
open Go
def nzB (s : Int) : Bool := decide (s ≠ 0)
theorem refsK_seqs (i : Int) (n : Nod) : ∀ k, k ≤ n.seqs.length → (refsK i n k).map Rf.seq = (n.seqs.take k).filter nzB
  | 0, _ => by simp [refsK]
  | k + 1, h => by
    have ih := refsK_seqs i n k (by omega)
    have hk : k < n.seqs.length := by omega
    rw [refsK_succ, List.map_append, ih, List.take_add_one, List.getElem?_eq_getElem hk, List.filter_append, getD_at0 hk]
    congr 1
    by_cases h0 : n.seqs[k] = 0
    · simp [h0, nzB]
    · simp [h0, nzB]
theorem refsN_seqs (i : Nat) (hi : i < 12) (n : Nod) (h : mayN n = true) : (refsN i n).map Rf.seq = n.seqs.filter nzB := by
  unfold refsN
  by_cases hk : n.kind = 1
  · rw [if_pos ⟨hk, h, by unfold within; simp; omega⟩, refsK_seqs _ _ _ (Nat.le_refl _), List.take_length]
  · rw [if_neg (fun h => hk h.1)]
    have : n.seqs = [] := by
      have hm := h
      unfold mayN at hm
      split at hm
      · simp at hm; exact hm.1.2
      · split at hm
        · simp at hm; exact hm.1.2
        · cases hm
    rw [this]; rfl
theorem refsU_seqs {t : Tre} (h12 : t.length = 12) (hall : ∀ n ∈ t, mayN n = true) : ∀ k, k ≤ 12 → (refsU t k).map Rf.seq = (allS (t.take k)).filter nzB
  | 0, _ => by simp [refsU, allS]
  | k + 1, hk => by
    have ih := refsU_seqs h12 hall k (by omega)
    have hm : mayN (t.getD k default) = true := hall _ (by rw [getD_at (by omega)]; exact List.getElem_mem _)
    rw [refsU_succ, List.map_append, ih, refsN_seqs k (by omega) _ hm, allS_take (by omega), List.filter_append]
/-- Pages in order, from one on, up to m. -/
structure PagesI (l : List Rf) (a m : Int) : Prop where
  inc : l.Pairwise fun x y => x.page < y.page
  lo : ∀ x ∈ l, a < x.page
  hi : ∀ x ∈ l, x.page ≤ m
theorem PagesI.append {l1 l2 : List Rf} {a m b : Int} (h1 : PagesI l1 a m) (h2 : PagesI l2 m b) (ha : a ≤ m) (hb : m ≤ b) : PagesI (l1 ++ l2) a b := by
  refine ⟨?_, fun x hx => ?_, fun x hx => ?_⟩
  · rw [List.pairwise_append]
    refine ⟨h1.inc, h2.inc, fun x hx y hy => ?_⟩
    have := h1.hi x hx
    have := h2.lo y hy
    omega
  · rcases List.mem_append.1 hx with h | h
    · exact h1.lo x h
    · have := h2.lo x h; omega
  · rcases List.mem_append.1 hx with h | h
    · have := h1.hi x h; omega
    · exact h2.hi x h
theorem PagesI.nil (a m : Int) : PagesI [] a m := ⟨List.Pairwise.nil, fun _ h => (by cases h), fun _ h => (by cases h)⟩
theorem refsK_pages (i : Int) (n : Nod) : ∀ k : Nat, PagesI (refsK i n k) (i * 5) (i * 5 + k)
  | 0 => by
    have : refsK i n 0 = [] := by simp [refsK]
    rw [this]; exact .nil _ _
  | k + 1 => by
    have ih := refsK_pages i n k
    rw [refsK_succ]
    refine ih.append ?_ (by omega) (by omega)
    split
    · exact .nil _ _
    · refine ⟨List.pairwise_singleton _ _, fun x hx => ?_, fun x hx => ?_⟩ <;> (rw [List.mem_singleton.1 hx]; simp only; omega)
theorem refsN_pages (i : Int) (n : Nod) : PagesI (refsN i n) (i * 5) (i * 5 + 5) := by
  unfold refsN
  split
  · rename_i h
    have h5 := mayN_seqs h.2.1
    have := refsK_pages i n n.seqs.length
    exact ⟨this.inc, this.lo, fun x hx => by have := this.hi x hx; omega⟩
  · exact .nil _ _
theorem refsU_pages (t : Tre) : ∀ k : Nat, PagesI (refsU t k) 0 (k * 5)
  | 0 => by
    have : refsU t 0 = [] := by simp [refsU]
    rw [this]; exact .nil _ _
  | k + 1 => by
    rw [refsU_succ]
    have h2 := refsN_pages k (t.getD k default)
    refine (refsU_pages t k).append ⟨h2.inc, h2.lo, fun x hx => ?_⟩ (by omega) (by omega)
    have := h2.hi x hx
    omega
/-- How many pages the files have. -/
def usedN (n : Nod) : Nat := if n.kind = 1 then (n.seqs.filter nzB).length else 0
theorem pages_ok {n : Nod} {s e : Sl} {V : View} (h : NodR V s e n) (hm : mayN n = true) : CallV Try.prog 45 ⟨[nodV n s e]⟩ V fun r V' => r = .int .i64 (usedN n : Nat) ∧ V' = V := by
  refine f45_x ?_
  unfold f45_n
  have hsn := h.seqs.n
  have h5 := mayN_seqs hm
  refine fun _ => joinP_cut (fun q V' => q.1 = (!decide (n.kind = 1)) ∧ V' = V) (br_intro (fun hb => ⟨by rw [hb], rfl⟩) (fun hb => (refN_ok h).mono ?_)) ?_
  · rintro r V1 ⟨rfl, rfl⟩
    refine ⟨_, rfl, ?_, rfl⟩
    rw [hb, hm]; rfl
  rintro ⟨q, ⟨⟩⟩ V1 ⟨h1, hV⟩
  simp only at h1 hV
  subst h1 hV
  dsimp only [unc]
  refine br_intro (fun hb => ⟨?_, rfl⟩) (fun hb => ?_)
  · unfold usedN; rw [if_neg (of_decide_eq_false (not_t hb))]; rfl
  have hU : usedN n = (n.seqs.filter nzB).length := by unfold usedN; rw [if_pos (of_decide_eq_true (not_f hb))]
  rw [hU]
  refine loop2 (k := .int .i64) (l := .int .i64) (fun (x : Int) (j : Int) V' => V' = V1 ∧ ∃ i : Nat, j = i ∧ i ≤ n.seqs.length ∧ x = (((n.seqs.take i).filter nzB).length : Nat)) (fun _ (j : Int) _ => n.seqs.length - j.toNat) ⟨rfl, 0, rfl, by omega, rfl⟩ ?_
  rintro (x : Int) (j : Int) V2 ⟨rfl, i, rfl, hi, rfl⟩
  refine br_intro (fun hlt => ?_) (fun hge => ?_)
  · have hlt : i < n.seqs.length := by have := of_decide_eq_true hlt; omega
    obtain ⟨ad, ha, hc, _⟩ := h.seqs.intN hlt
    have hfl : ((n.seqs.take i).filter nzB).length ≤ (n.seqs.take i).length := List.length_filter_le _ _
    rw [List.length_take] at hfl
    have hst : ((n.seqs.take (i + 1)).filter nzB).length = ((n.seqs.take i).filter nzB).length + if n.seqs.getD i 0 = 0 then 0 else 1 := by
      rw [List.take_add_one, List.getElem?_eq_getElem hlt, List.filter_append, List.length_append, getD_at0 hlt]
      congr 1
      by_cases h0 : n.seqs[i] = 0
      · simp [h0, nzB]
      · simp [h0, nzB]
    refine ⟨by omega, by omega, ad, ha, _, hc, joinP_cut (fun g V' => g.1 = (((n.seqs.take (i + 1)).filter nzB).length : Nat) ∧ V' = V2) (br_intro (fun h0 => ⟨inI64 (by omega) (by omega), ?_, rfl⟩) (fun h0 => ⟨?_, rfl⟩)) ?_⟩
    · rw [hst, if_neg (of_decide_eq_false (not_t h0))]; rfl
    · rw [hst, if_pos (of_decide_eq_true (not_f h0))]; rfl
    · rintro ⟨g, ⟨⟩⟩ V3 ⟨h1, hV⟩
      simp only at h1 hV
      subst h1 hV
      exact ⟨inI64 (by omega) (by omega), ⟨rfl, i + 1, by omega, by omega, rfl⟩, by omega⟩
  · have hge : i = n.seqs.length := by have := of_decide_eq_false hge; omega
    subst hge
    rw [List.take_length]
    exact ⟨rfl, rfl⟩
def usedU (t : Tre) : Nat → Nat
  | 0 => 0
  | k + 1 => usedU t k + usedN (t.getD k default)
theorem usedN_le {n : Nod} (h : mayN n = true) : usedN n ≤ 5 := by
  unfold usedN
  split
  · exact Nat.le_trans (List.length_filter_le _ _) (mayN_seqs h)
  · omega
theorem usedN_refs {i : Nat} (hi : i < 12) {n : Nod} (h : mayN n = true) : (refsN i n).length = usedN n := by
  have := congrArg List.length (refsN_seqs i hi n h)
  rw [List.length_map] at this
  rw [this]
  unfold usedN
  split
  · rfl
  · rename_i hk
    have hs : n.seqs = [] := by
      have hm := h
      unfold mayN at hm
      split at hm
      · simp at hm; exact hm.1.2
      · split at hm
        · simp at hm; exact hm.1.2
        · cases hm
    rw [hs]; rfl
theorem usedU_refs {t : Tre} (h12 : t.length = 12) (hall : ∀ n ∈ t, mayN n = true) : ∀ k, k ≤ 12 → (refsU t k).length = usedU t k
  | 0, _ => by simp [refsU, usedU]
  | k + 1, hk => by
    have hm : mayN (t.getD k default) = true := hall _ (by rw [getD_at (by omega)]; exact List.getElem_mem _)
    rw [refsU_succ, List.length_append, usedU_refs h12 hall k (by omega), usedN_refs (by omega) hm]; rfl
theorem used_ok {s : Sl} {t : Tre} {V : View} (h : SlR V s t) (hM : mayT t = true) : CallV Try.prog 15 ⟨[treV s]⟩ V fun r V' => r = .int .i64 ((refsU t 12).length : Nat) ∧ V' = V := by
  obtain ⟨h12, hall, _⟩ := mayT_facts hM
  rw [usedU_refs h12 hall 12 (Nat.le_refl _)]
  have hn := h.n
  have hm : ∀ i, i < 12 → mayN (t.getD i default) = true := fun i hi => hall _ (by rw [getD_at (by omega)]; exact List.getElem_mem _)
  have hul : ∀ k, k ≤ 12 → usedU t k ≤ 5 * k := by
    intro k
    induction k with
    | zero => intro _; simp [usedU]
    | succ k ih =>
      intro hk
      have := ih (by omega)
      have := usedN_le (hm k (by omega))
      show usedU t k + usedN (t.getD k default) ≤ _
      omega
  refine f15_x ?_
  unfold f15_n
  refine fun _ => CallV.mono (K := fun r V' => r = .bool true ∧ V' = V) ?_ ?_
  · refine f44_x ?_
    unfold f44_n
    refine fun _ => loop1 (k := .int .i64) (fun (x : Int) V' => V' = V ∧ ∃ i : Nat, x = i ∧ i ≤ 12) (fun (x : Int) _ => 12 - x.toNat) ⟨rfl, 0, rfl, by omega⟩ ?_
    rintro (x : Int) V1 ⟨rfl, i, rfl, hi⟩
    refine br_intro (fun hlt => ?_) (fun hge => ⟨?_, rfl⟩)
    · have hlt : i < 12 := by have := of_decide_eq_true hlt; omega
      obtain ⟨ad, sq, en, ha, hc, hN⟩ := h.nodN (i := i) (by omega)
      refine ⟨by omega, by omega, ad, ha, _, _, _, sq, en, hc, fun _ => (refN_ok hN).mono ?_⟩
      rintro r V2 ⟨rfl, rfl⟩
      refine ⟨_, rfl, br_intro (fun hb => ?_) (fun _ => ⟨inI64 (by omega) (by omega), ⟨rfl, i + 1, by omega, by omega⟩, by omega⟩)⟩
      rw [hm i hlt] at hb; cases hb
    · rw [decide_eq_true (show ((s.n : Nat) : Int) = 12 by omega)]
  rintro r V1 ⟨rfl, rfl⟩
  refine ⟨_, rfl, br_intro (fun hb => absurd hb (by decide)) (fun _ => ?_)⟩
  refine loop2 (k := .int .i64) (l := .int .i64) (fun (x : Int) (j : Int) V' => V' = V1 ∧ ∃ i : Nat, j = i ∧ i ≤ 12 ∧ x = (usedU t i : Nat)) (fun _ (j : Int) _ => 12 - j.toNat) ⟨rfl, 0, rfl, by omega, rfl⟩ ?_
  rintro (x : Int) (j : Int) V2 ⟨rfl, i, rfl, hi, rfl⟩
  refine br_intro (fun hlt => ?_) (fun hge => ?_)
  · have hlt : i < 12 := by have := of_decide_eq_true hlt; omega
    obtain ⟨ad, sq, en, ha, hc, hN⟩ := h.nodN (i := i) (by omega)
    have h1 := hul i hi
    have h2 := usedN_le (hm i hlt)
    refine ⟨by omega, by omega, ad, ha, _, _, _, sq, en, hc, fun _ => (pages_ok hN (hm i hlt)).mono ?_⟩
    rintro r V3 ⟨rfl, rfl⟩
    exact ⟨_, rfl, inI64 (by omega) (by omega), inI64 (by omega) (by omega), ⟨rfl, i + 1, by omega, by omega, rfl⟩, by omega⟩
  · have hge : i = 12 := by have := of_decide_eq_false hge; omega
    subst hge
    exact ⟨rfl, rfl⟩
theorem SlR.rfN {V : View} {s : Sl} {l : List Rf} (h : SlR V s l) {i : Nat} (hi : i < l.length) :
    ∃ ad, s.a = some ad ∧ cellsAt V (ad.add (i * 2)) [.int .i64 l[i].page, .int .i64 l[i].seq] := by
  obtain ⟨ad, hx, ha, hc, _⟩ := h.rf (x := (i : Int)) (by omega) (by have := h.n; omega)
  exact ⟨ad, ha, hc⟩
theorem rootNames_ok {s : Sl} {t : Tre} {V : View} (h : SlR V s t) : CallV Try.prog 5 ⟨[treV s]⟩ V fun r V' => r = .bool true ∧ V.Le V' := by
  refine f5_x ?_
  unfold f5_n
  refine fun _ => (light15_ok h).mono ?_
  rintro r V1 ⟨x, rfl, _, _, _, rfl⟩
  refine ⟨x, rfl, br_intro (fun _ => awakeJ (View.Le.refl _) fun V' hV => ⟨rfl, hV⟩) (fun _ => (mayTree_ok h).mono ?_)⟩
  rintro r V2 ⟨rfl, hV2⟩
  refine ⟨_, rfl, br_intro (fun hb => ?_) (fun hb => ?_)⟩
  · have hM := not_t hb
    refine joinP_cut (fun q V' => q.1 = true ∧ V1.Le V') ((refsT_ok (h.mono hV2)).mono ?_) ?_
    · rintro r V3 ⟨y, rfl, hy, hV3⟩
      have e : refsT t = [] := by unfold refsT; rw [hM]; rfl
      rw [e] at hy
      have hyn : y.n = 0 := hy.n
      refine ⟨y, rfl, br_intro (fun _ => awakeJ (hV2.trans hV3) fun V' hV => ⟨rfl, hV⟩) (fun hb => ?_)⟩
      have := of_decide_eq_false hb
      omega
    · rintro ⟨q, ⟨⟩⟩ V4 ⟨h1, hV⟩
      simp only at h1 hV
      subst h1
      exact ⟨rfl, hV⟩
  have hM := not_f hb
  obtain ⟨h12, hall, hap⟩ := mayT_facts hM
  refine (refsT_ok (h.mono hV2)).mono ?_
  rintro r V3 ⟨y, rfl, hy, hV3⟩
  have e : refsT t = refsU t 12 := by unfold refsT; rw [if_pos hM, h12]
  rw [e] at hy
  have hyn := hy.n
  have hyc := hy.c
  have hpg := refsU_pages t 12
  have hrl := refsU_len t 12
  have hsq : ((refsU t 12).map Rf.seq).Nodup := by
    rw [refsU_seqs h12 hall 12 (Nat.le_refl _), List.take_of_length_le (by omega)]
    unfold apartL at hap
    exact of_decide_eq_true hap
  have hinc := List.pairwise_iff_getElem.1 hpg.inc
  have hneq : ∀ i j (hi : i < (refsU t 12).length) (hj : j < (refsU t 12).length), j < i → (refsU t 12)[j].seq ≠ (refsU t 12)[i].seq := by
    intro i j hi hj hji heq
    have := List.pairwise_iff_getElem.1 hsq j i (by simpa using hj) (by simpa using hi) hji
    simp only [List.getElem_map] at this
    exact this heq
  refine ⟨y, rfl, ?_⟩
  generalize hL : refsU t 12 = L at *
  have hV13 := hV2.trans hV3
  refine loop1 (k := .int .i64) (fun (x : Int) V' => V' = V3 ∧ ∃ i : Nat, x = i ∧ i ≤ L.length) (fun (x : Int) _ => L.length - x.toNat) ⟨rfl, 0, rfl, by omega⟩ ?_
  rintro (x : Int) V4 ⟨rfl, i, rfl, hi⟩
  refine br_intro (fun hlt => ?_) (fun hge => ?_)
  · have hlt : i < L.length := by have := of_decide_eq_true hlt; omega
    obtain ⟨ad, ha, hc⟩ := hy.rfN hlt
    have p1 := hpg.lo _ (List.getElem_mem hlt)
    have p2 := hpg.hi _ (List.getElem_mem hlt)
    refine ⟨by omega, by omega, ad, ha, _, _, hc, fun _ => joinP_cut (fun q V' => q.1 = false ∧ V' = V4) ⟨trivial, V4, View.Le.refl _, br_intro (fun hb => ?_) (fun _ => br_intro (fun h0 => ?_) (fun _ => ⟨rfl, rfl⟩))⟩ ?_⟩
    · exfalso
      rw [decide_eq_false (show ¬ L[i].page < 1 by omega)] at hb
      have := of_decide_eq_true hb
      omega
    · have h0 : 0 < i := by have := of_decide_eq_true h0; omega
      obtain ⟨j, rfl⟩ : ∃ j, i = j + 1 := ⟨i - 1, by omega⟩
      obtain ⟨ad2, ha2, hc2⟩ := hy.rfN (i := j) (by omega)
      have e1 : (((j + 1 : Nat) : Int) - 1).toNat = j := by omega
      have := hinc j (j + 1) (by omega) hlt (by omega)
      refine ⟨inI64 (by omega) (by omega), by omega, by omega, ad2, ha2, L[j].page, ?_, decide_eq_false (by omega), rfl⟩
      rw [e1]; exact cellsAt_nth hc2 0 rfl
    · rintro ⟨q, ⟨⟩⟩ V5 ⟨h1, hV⟩
      simp only at h1 hV
      subst h1 hV
      dsimp only [unc]
      refine br_intro (fun hb => absurd hb (by decide)) (fun _ => ⟨by omega, by omega, by omega, ?_⟩)
      have e2 : (if y.c = 0 then y.a else Option.map (fun (x : Addr) => x.add 0) y.a) = y.a := by rw [map_add_zero]; simp
      rw [e2, Nat.sub_zero, Int.toNat_natCast]
      refine loop1 (k := .int .i64) (fun (x : Int) V' => V' = V5 ∧ ∃ j : Nat, x = j ∧ j ≤ i) (fun (x : Int) _ => i - x.toNat) ⟨rfl, 0, rfl, by omega⟩ ?_
      rintro (x : Int) V6 ⟨rfl, j, rfl, hj⟩
      refine br_intro (fun hltj => ?_) (fun hgej => ⟨inI64 (by omega) (by omega), ⟨rfl, i + 1, by omega, by omega⟩, by omega⟩)
      have hltj : j < i := by have := of_decide_eq_true hltj; omega
      obtain ⟨ad2, ha2, hc2⟩ := hy.rfN (i := j) (by omega)
      refine ⟨by omega, by omega, ad2, ha2, _, _, hc2, fun _ => br_intro (fun hb => ?_) (fun _ => ⟨inI64 (by omega) (by omega), ⟨rfl, j + 1, by omega, by omega⟩, by omega⟩)⟩
      exact absurd (of_decide_eq_true hb) (hneq i j hlt (by omega) hltj)
  · refine joinP_cut (fun q V' => q.1 = true ∧ V1.Le V') ((used_ok (h.mono hV13) hM).mono ?_) ?_
    · rintro r V5 ⟨rfl, rfl⟩
      rw [hL]
      refine ⟨_, rfl, br_intro (fun _ => awakeJ hV13 fun V' hV => ⟨rfl, hV⟩) (fun hb => ?_)⟩
      have := of_decide_eq_false hb
      exact absurd (by rw [hyn]) this
    · rintro ⟨q, ⟨⟩⟩ V5 ⟨h1, hV⟩
      simp only at h1 hV
      subst h1
      exact ⟨rfl, hV⟩
end Go.Proofs.Ytpalkdmngckcoaa
