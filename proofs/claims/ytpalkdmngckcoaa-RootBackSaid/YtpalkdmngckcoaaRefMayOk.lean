/- The reference's MayTree: it answers as dir.May does. -/
import Derived.Test.YtpalkdmngckcoaaReachOk
import Derived.Test.YtpalkdmngckcoaaRefOk
import Derived.Test.YtpalkdmngckcoaaDirOk
namespace Go.Proofs.Ytpalkdmngckcoaa
open Go
def nodK (t : Tre) (i : Nat) : Bool := mayN (t.getD i default) && (entsT t i).all fun e => !decide (kindT t e.node.toNat = 0)
abbrev namedT (t : Tre) (a : Int) : Nat := (allE t).countP (fun (x : Ent) => decide (x.node = a))
noncomputable def onT (t : Tre) (i : Nat) : Bool := metB t 0 i && decide (kindT t i = 2)
noncomputable def hang2 (t : Tre) (i : Nat) : Bool :=
  if kindT t i = 2 then onT t i && (decide (i = 0) || decide (((namedT t i : Nat) : Int) = 1)) else if kindT t i = 1 then decide ((t.getD i default).links = (namedT t i : Nat)) else true
noncomputable def refMay (t : Tre) : Bool := decide (t.length = 12) && decide (kindT t 0 = 2) && (List.range 12).all (nodK t) && apartL (allS t) && (List.range 12).all (hang2 t)
theorem kind_of {n : Nod} (h : mayN n = true) : n.kind = 0 ∨ n.kind = 1 ∨ n.kind = 2 := by
  unfold mayN at h
  split at h
  · rename_i hk; exact .inl hk
  · split at h
    · rename_i hk; exact .inr (.inl hk)
    · split at h
      · rename_i hk; exact .inr (.inr hk)
      · cases h
theorem refMay_eq (t : Tre) : refMay t = mayT t := by
  by_cases h12 : t.length = 12
  rotate_left
  · unfold refMay mayT; rw [decide_eq_false h12]; rfl
  by_cases hk : kindT t 0 = 2
  rotate_left
  · unfold refMay mayT; rw [decide_eq_false hk]; simp
  by_cases hall : t.all mayN = true
  rotate_left
  · unfold refMay mayT
    have h1 : t.all mayN = false := by simpa using hall
    have h2 : (List.range 12).all (nodK t) = false := by
      rw [List.all_eq_false] at h1 ⊢
      obtain ⟨n, hn, hm⟩ := h1
      obtain ⟨i, hi, rfl⟩ := List.getElem_of_mem hn
      refine ⟨i, List.mem_range.2 (by omega), ?_⟩
      unfold nodK
      rw [getD_at hi]
      simp [hm]
    rw [h1, h2]; simp
  have hall' : ∀ n ∈ t, mayN n = true := List.all_eq_true.1 hall
  have hmem : ∀ i, i < 12 → t.getD i default ∈ t := fun i hi => by rw [getD_at (by omega)]; exact List.getElem_mem _
  have hmn : ∀ i, i < 12 → mayN (t.getD i default) = true := fun i hi => hall' _ (hmem i hi)
  unfold refMay mayT
  rw [decide_eq_true h12, decide_eq_true hk, hall]
  simp only [Bool.true_and, Bool.and_true]
  have hcnt : ∀ i, i < 12 → (cnt 12 (allE t)).getD i 0 = (namedT t i : Nat) := fun i hi => cnt_get 12 _ hi
  have hin : ∀ (i : Nat) (e : Ent), i < 12 → e ∈ entsT t i → e ∈ allE t := fun i e hi he => List.mem_flatMap.2 ⟨_, hmem i hi, he⟩
  rw [Bool.eq_iff_iff]
  simp only [Bool.and_eq_true, List.all_eq_true, List.mem_range]
  constructor
  · rintro ⟨⟨hN, hA⟩, hH⟩
    refine ⟨fun i hi => ?_, hA⟩
    have h2 := hH i hi
    rw [hcnt i hi]
    unfold hang2 at h2
    unfold hangB
    split at h2
    · rename_i hk2
      rw [if_pos hk2]
      unfold onT at h2
      simp only [Bool.and_eq_true] at h2
      rw [h2.1.1, Bool.true_and, ← h2.2]
      congr 1
      exact decide_eq_decide.2 (by omega)
    · rename_i hk2
      rw [if_neg hk2]
      split at h2
      · rename_i hk1; rw [if_pos hk1]; exact h2
      · rename_i hk1
        rw [if_neg hk1]
        have hk0 : kindT t i = 0 := by
          rcases kind_of (hmn i hi) with h | h | h
          · exact h
          · exact absurd h hk1
          · exact absurd h hk2
        apply decide_eq_true
        have : namedT t i = 0 := by
          rw [List.countP_eq_zero]
          intro e he hd
          have hd := of_decide_eq_true hd
          obtain ⟨n, hn, hen⟩ := List.mem_flatMap.1 he
          obtain ⟨j, hj, rfl⟩ := List.getElem_of_mem hn
          have hj12 : j < 12 := by omega
          have h3 := hN j hj12
          unfold nodK at h3
          simp only [Bool.and_eq_true, List.all_eq_true] at h3
          have h4 := h3.2 e (by show e ∈ (t.getD j default).ents; rw [getD_at hj]; exact hen)
          rw [hd, Int.toNat_natCast] at h4
          simp [hk0] at h4
        omega
  · rintro ⟨hH, hA⟩
    have hB : ∀ i, i < 12 → hangB (t.getD i default) i (namedT t i : Nat) (metB t 0 i) = true := fun i hi => by rw [← hcnt i hi]; exact hH i hi
    refine ⟨⟨fun i hi => ?_, hA⟩, fun i hi => ?_⟩
    · unfold nodK
      rw [hmn i hi, Bool.true_and, List.all_eq_true]
      intro e he
      have hnode := mayL_node (mayN_ents (hmn i hi)) he
      obtain ⟨q, hq⟩ : ∃ q : Nat, e.node = q := ⟨e.node.toNat, by omega⟩
      rw [hq, Int.toNat_natCast]
      have hb := hB q (by omega)
      by_cases hk0 : kindT t q = 0
      · exfalso
        unfold hangB at hb
        have hk0' : (t.getD q default).kind = 0 := hk0
        rw [if_neg (by omega), if_neg (by omega)] at hb
        have hb := of_decide_eq_true hb
        have : 0 < namedT t q := List.countP_pos_iff.2 ⟨e, hin i e hi he, decide_eq_true hq⟩
        omega
      · rw [decide_eq_false hk0]; rfl
    · have hb := hB i hi
      unfold hangB at hb
      unfold hang2
      split at hb
      · rename_i hk2
        rw [if_pos (show kindT t i = 2 from hk2)]
        simp only [Bool.and_eq_true] at hb
        unfold onT
        rw [hb.1, decide_eq_true (show kindT t i = 2 from hk2), Bool.true_and, Bool.true_and, ← hb.2]
        congr 1
        exact decide_eq_decide.2 (by omega)
      · rename_i hk2
        rw [if_neg (show ¬ kindT t i = 2 from hk2)]
        split at hb
        · rename_i hk1; rw [if_pos (show kindT t i = 1 from hk1)]; exact hb
        · rename_i hk1; rw [if_neg (show ¬ kindT t i = 1 from hk1)]
/-- A map that holds 1 behind what was met. -/
def SeenM (V : View) (r : Nat) (l : List Int) : Prop := ∃ es cl, V.see r = some (.map es cl) ∧ IntK es.toList ∧ ∀ k, (vlk k es.toList).getD (.int .i64 0) = .int .i64 (if k ∈ l then 1 else 0)
theorem SeenM.put {V : View} {r : Nat} {l : List Int} (h : SeenM V r l) (x : Int) : ∃ es cl f, V.see r = some (.map es cl) ∧ mfind (.int .i64 x) es.toList 0 = some f ∧ found (.int .i64 0) f = .int .i64 (if x ∈ l then 1 else 0) ∧ SeenM (V.put r (mput es cl f (.int .i64 x) (.int .i64 1))) r (l ++ [x]) := by
  obtain ⟨es, cl, hs, hk, hv⟩ := h
  obtain ⟨f, hf, hfd, es', cl', hm, hk', hv'⟩ := mput_int (cl := cl) (k := x) (v := .int .i64 1) hk
  refine ⟨es, cl, f, hs, hf, by rw [hfd, hv], es', cl', by rw [View.see_put_same, hm], hk', fun k => ?_⟩
  rw [hv']
  by_cases e : k = x
  · rw [if_pos e, if_pos (by simp [e])]; rfl
  · rw [if_neg e, hv]
    by_cases hm : k ∈ l
    · rw [if_pos hm, if_pos (by simp [hm])]
    · rw [if_neg hm, if_neg (by simp [hm, e])]
theorem apart_snoc2 {l : List Int} {x : Int} (h : apartL l = true) : apartL (l ++ [x]) = !(!decide (x = 0) && decide (x ∈ l)) := by
  rw [apart_snoc h, count_snoc, if_pos rfl]
  have : decide (1 < l.count x + 1) = decide (x ∈ l) := decide_eq_decide.2 (by rw [← List.count_pos_iff]; omega)
  rw [this]
theorem refMay_false {t : Tre} (h : (decide (t.length = 12) && decide (kindT t 0 = 2) && (List.range 12).all (nodK t) && apartL (allS t)) = false ∨ (List.range 12).all (hang2 t) = false) : refMay t = false := by
  unfold refMay
  rcases h with h | h
  · rw [h]; rfl
  · rw [h, Bool.and_false]
theorem refMay_bad {t : Tre} {i : Nat} (hi : i < 12) (h : nodK t i = false) : refMay t = false := refMay_false (.inl (by rw [all_stop hi h]; simp))
theorem refMay_twice {t : Tre} (h : apartL (allS t) = false) : refMay t = false := refMay_false (.inl (by rw [h]; simp))
theorem mayTree_ok {s : Sl} {t : Tre} {V : View} (h : SlR V s t) : CallV Try.prog 13 ⟨[treV s]⟩ V fun r V' => r = .bool (mayT t) ∧ V.Le V' := by
  rw [← refMay_eq]
  refine f13_x ?_
  unfold f13_n
  have hn := h.n
  refine fun _ => joinP_cut (fun q V' => q.1 = (!(decide (t.length = 12) && decide (kindT t 0 = 2))) ∧ V' = V) (br_intro (fun hb => ⟨?_, rfl⟩) (fun hb => ?_)) ?_
  · have hb : ¬ t.length = 12 := by have := of_decide_eq_false (not_t hb); omega
    rw [decide_eq_false hb]; rfl
  · have hb : t.length = 12 := by have := of_decide_eq_true (not_f hb); omega
    obtain ⟨ad, sq, en, ha, hc, hN⟩ := h.nodN (i := 0) (by omega)
    refine ⟨by omega, by omega, ad, ha, _, cellsAt_nth hc 0 rfl, ?_, rfl⟩
    rw [decide_eq_true hb]; rfl
  rintro ⟨q, ⟨⟩⟩ V1 ⟨h1, hV⟩
  simp only at h1 hV
  subst h1 hV
  dsimp only [unc]
  refine br_intro (fun hb => ⟨?_, View.Le.refl _⟩) (fun hb r hr => ?_)
  · have hb := not_t hb
    rw [refMay_false (.inl (by rw [hb]; rfl))]
  have hb := not_f hb
  simp only [Bool.and_eq_true, decide_eq_true_eq] at hb
  obtain ⟨h12, hk0⟩ := hb
  have hfr := View.see_none_of_ge hr
  refine loop1 (k := .int .i64) (fun (x : Int) V' => ∃ i : Nat, x = i ∧ i ≤ 12 ∧ (List.range i).all (nodK t) = true ∧ apartL (allS (t.take i)) = true ∧ SeenM V' r (allS (t.take i)) ∧ V1.Le (V'.hide r)) (fun (x : Int) _ => 12 - x.toNat) ⟨0, rfl, by omega, rfl, rfl, ⟨_, _, View.see_put_same _ _ _, fun e he => (by cases he), fun k => rfl⟩, put_le_hide hfr (View.Le.refl _)⟩ ?_
  rintro (x : Int) V2 ⟨i, rfl, hi, hall, hap, hS2, hV2⟩
  have hV2' : V1.Le V2 := hV2.trans (View.hide_le _ _)
  refine br_intro (fun hlt => ?_) (fun hge => ?_)
  · have hlt : i < 12 := by have := of_decide_eq_true hlt; omega
    obtain ⟨ad, sq, en, ha, hc, hN⟩ := h.nodN (i := i) (by omega)
    refine ⟨by omega, by omega, ad, ha, _, _, _, sq, en, cellsAt_mono hV2' hc, fun _ => (refN_ok (hN.mono hV2')).mono ?_⟩
    rintro r1 V3 ⟨rfl, rfl⟩
    refine ⟨_, rfl, br_intro (fun hb => ⟨?_, hV2'⟩) (fun hb => ?_)⟩
    · rw [refMay_bad hlt (by unfold nodK; rw [not_t hb]; rfl)]
    have hm := not_f hb
    have hen := hN.ents.n
    have hsn := hN.seqs.n
    have hs5 := mayN_seqs hm
    have he10 := mayL_len (mayN_ents hm)
    refine loop1 (k := .int .i64) (fun (x : Int) V' => V' = V3 ∧ ∃ k : Nat, x = k ∧ k ≤ (entsT t i).length ∧ ((entsT t i).take k).all (fun e => !decide (kindT t e.node.toNat = 0)) = true) (fun (x : Int) _ => (entsT t i).length - x.toNat) ⟨rfl, 0, rfl, by omega, rfl⟩ ?_
    rintro (x : Int) V4 ⟨rfl, k, rfl, hk, hek⟩
    have hlene : (entsT t i).length = (t.getD i default).ents.length := rfl
    refine br_intro (fun hltk => ?_) (fun hge => ?_)
    · have hltk : k < (t.getD i default).ents.length := by have := of_decide_eq_true hltk; omega
      obtain ⟨ad, ha, hc, _, _⟩ := (hN.ents.mono hV2').entN hltk
      have hxm : (t.getD i default).ents.getD k default ∈ (t.getD i default).ents := by rw [getD_at hltk]; exact List.getElem_mem _
      have hq := mayL_node (mayN_ents hm) hxm
      obtain ⟨q, hqe⟩ : ∃ q : Nat, ((t.getD i default).ents.getD k default).node = q := ⟨((t.getD i default).ents.getD k default).node.toNat, by omega⟩
      obtain ⟨ad4, sq4, en4, ha4, hc4, _⟩ := (h.mono hV2').nodN (i := q) (by omega)
      refine ⟨by omega, by omega, ad, ha, _, _, hc, fun _ => ⟨by omega, by omega, ad4, ha4, (t.getD q default).kind, ?_, br_intro (fun hz => ⟨?_, hV2'⟩) (fun hz => ⟨inI64 (by omega) (by omega), ⟨rfl, k + 1, by omega, by omega, ?_⟩, by omega⟩)⟩⟩
      · rw [hqe]; exact cellsAt_nth hc4 0 rfl
      · have hz := of_decide_eq_true hz
        rw [refMay_bad hlt]
        unfold nodK
        rw [Bool.and_eq_false_iff]
        right
        rw [List.all_eq_false]
        exact ⟨_, hxm, by rw [hqe, Int.toNat_natCast, decide_eq_true (show kindT t q = 0 from hz)]; simp⟩
      · have hz := of_decide_eq_false hz
        rw [List.take_add_one, List.getElem?_eq_getElem (show k < (entsT t i).length from hltk), List.all_append, hek]
        have e1 : (entsT t i)[k]'hltk = (t.getD i default).ents.getD k default := (getD_at hltk).symm
        show (true && [(entsT t i)[k]'hltk].all _) = true
        rw [e1]
        simp only [List.all_cons, List.all_nil, hqe, Int.toNat_natCast, Bool.true_and, Bool.and_true]
        rw [decide_eq_false (show ¬ kindT t q = 0 from hz)]; rfl
    · have hge : k = (entsT t i).length := by have := of_decide_eq_false hge; omega
      subst hge
      rw [List.take_length] at hek
      have hnk : nodK t i = true := by unfold nodK; rw [hm, hek]; rfl
      have hpre := allS_prefix t (i + 1)
      rw [allS_take (by omega)] at hpre
      have htake := allS_take (t := t) (i := i) (by omega)
      generalize hnd : t.getD i default = nd at *
      refine loop1 (k := .int .i64) (fun (x : Int) V' => ∃ k : Nat, x = k ∧ k ≤ nd.seqs.length ∧ SeenM V' r (allS (t.take i) ++ nd.seqs.take k) ∧ apartL (allS (t.take i) ++ nd.seqs.take k) = true ∧ V1.Le (V'.hide r)) (fun (x : Int) _ => nd.seqs.length - x.toNat) ⟨0, rfl, by omega, by simpa using hS2, by simpa using hap, hV2⟩ ?_
      rintro (x : Int) V5 ⟨k, rfl, hk, hS5, hap5, hV5⟩
      have hV5' : V1.Le V5 := hV5.trans (View.hide_le _ _)
      refine br_intro (fun hltk => ?_) (fun hge => ?_)
      · have hltk : k < nd.seqs.length := by have := of_decide_eq_true hltk; omega
        obtain ⟨ad, ha, hc, _⟩ := (hN.seqs.mono hV5').intN hltk
        have etk : nd.seqs.take (k + 1) = nd.seqs.take k ++ [nd.seqs.getD k 0] := by rw [List.take_add_one, List.getElem?_eq_getElem hltk, getD_at0 hltk]; rfl
        have hpre2 : allS (t.take i) ++ nd.seqs.take (k + 1) <+: allS t := by
          refine List.IsPrefix.trans ?_ hpre
          rw [List.prefix_append_right_inj]
          exact List.take_prefix _ _
        rw [etk, ← List.append_assoc] at hpre2
        refine ⟨by omega, by omega, ad, ha, _, hc, ?_⟩
        generalize nd.seqs.getD k 0 = x at *
        obtain ⟨es, cl, f, hse, hmf, hfd, hput⟩ := hS5.put x
        refine joinP_cut (fun q V' => q.1 = (!apartL (allS (t.take i) ++ nd.seqs.take k ++ [x])) ∧ V' = V5) (br_intro (fun hx0 => ⟨trivial, es, cl, f, hse, hmf, _, hfd, ?_, rfl⟩) (fun hx0 => ⟨?_, rfl⟩)) ?_
        · rw [apart_snoc2 hap5, hx0, Bool.true_and, Bool.not_not]
          by_cases hm : x ∈ allS (t.take i) ++ nd.seqs.take k
          · rw [if_pos hm, decide_eq_true hm]; rfl
          · rw [if_neg hm, decide_eq_false hm]; rfl
        · rw [apart_snoc2 hap5, hx0]; rfl
        · rintro ⟨q, ⟨⟩⟩ V6 ⟨h1, hV⟩
          simp only at h1 hV
          subst h1 hV
          dsimp only [unc]
          refine br_intro (fun hb => ⟨?_, hV5'⟩) (fun hb => ⟨trivial, r, es, cl, f, rfl, hse, hmf, inI64 (by omega) (by omega), ⟨k + 1, by omega, by omega, ?_, ?_, hV5.trans (hide_le_put_hide r _)⟩, by omega⟩)
          · rw [refMay_twice (apart_prefix hpre2 (not_t hb))]
          · rw [etk, ← List.append_assoc]; exact hput
          · rw [etk, ← List.append_assoc]; exact not_f hb
      · have hge : k = nd.seqs.length := by have := of_decide_eq_false hge; omega
        subst hge
        rw [List.take_length] at hS5 hap5
        exact ⟨inI64 (by omega) (by omega), ⟨i + 1, by omega, by omega, all_step hall hnk, by rw [htake]; exact hap5, by rw [htake]; exact hS5, hV5⟩, by omega⟩
  · have hge : i = 12 := by have := of_decide_eq_false hge; omega
    subst hge
    rw [List.take_of_length_le (by omega)] at hap
    have hnod : ∀ i, i < 12 → nodK t i = true := fun i hi => List.all_eq_true.1 hall i (List.mem_range.2 hi)
    have hallN : ∀ n ∈ t, mayN n = true := fun n hn => by
      obtain ⟨j, hj, rfl⟩ := List.getElem_of_mem hn
      have := hnod j (by omega)
      unfold nodK at this
      rw [getD_at hj] at this
      simp only [Bool.and_eq_true] at this
      exact this.1
    have hR : refMay t = (List.range 12).all (hang2 t) := by
      unfold refMay
      rw [decide_eq_true h12, decide_eq_true hk0, hall, hap]; rfl
    rw [hR]
    have hE : ∀ n ∈ t, n.ents.length ≤ 10 := fun n hn => mayL_len (mayN_ents (hallN n hn))
    refine (reached_ok (h.mono hV2') h12 hallN hk0).mono ?_
    rintro r1 V3 ⟨y, rfl, hy, hV3⟩
    have hV13 := hV2'.trans hV3
    refine ⟨y, rfl, ?_⟩
    refine loop1 (k := .int .i64) (fun (x : Int) V' => V' = V3 ∧ ∃ i : Nat, x = i ∧ i ≤ 12 ∧ (List.range i).all (hang2 t) = true) (fun (x : Int) _ => 12 - x.toNat) ⟨rfl, 0, rfl, by omega, rfl⟩ ?_
    rintro (x : Int) V4 ⟨rfl, i, rfl, hi, hP⟩
    refine br_intro (fun hlt => ?_) (fun hge => ?_)
    · have hlt : i < 12 := by have := of_decide_eq_true hlt; omega
      obtain ⟨ad, sq, en, ha, hc, hN⟩ := (h.mono hV13).nodN (i := i) (by omega)
      refine ⟨by omega, by omega, ad, ha, _, _, _, sq, en, hc, fun _ => (named_ok (h.mono hV13) h12 hE).mono ?_⟩
      rintro r1 V5 ⟨rfl, rfl⟩
      refine ⟨_, rfl, ?_⟩
      have hyn := hy.n
      simp only [List.length_map, List.length_range] at hyn
      refine joinP_cut (fun q V' => q.1 = (!hang2 t i) ∧ V' = V5) (br_intro (fun h2 => ?_) (fun h2 => ⟨?_, rfl⟩)) ?_
      · have h2 : kindT t i = 2 := of_decide_eq_true h2
        obtain ⟨ad3, hx', ha3, hc3⟩ := hy.bool (x := (i : Int)) (by omega) (by omega)
        have e3 : ((List.range 12).map fun j => metB t 0 j && decide (kindT t j = 2))[((i : Int)).toNat] = onT t i := by simp [onT]
        rw [e3] at hc3
        refine ⟨by omega, by omega, ad3, ha3, _, hc3, ?_, rfl⟩
        unfold hang2
        rw [if_pos h2]
        have h2' : (t.getD i default).kind = 2 := h2
        rw [decide_eq_false (show ¬ (t.getD i default).kind = 1 by omega)]
        have d1 : decide ((0 : Int) < (i : Int)) = !decide (i = 0) := dec_not (by omega)
        rw [d1]
        cases onT t i <;> cases decide (i = 0) <;> cases decide (((namedT t i : Nat) : Int) = 1) <;> rfl
      · have h2 : ¬ kindT t i = 2 := of_decide_eq_false h2
        unfold hang2
        rw [if_neg h2]
        by_cases h1 : kindT t i = 1
        · rw [if_pos h1, decide_eq_true (show (t.getD i default).kind = 1 from h1)]; rfl
        · rw [if_neg h1, decide_eq_false (show ¬ (t.getD i default).kind = 1 from h1)]; rfl
      · rintro ⟨q, ⟨⟩⟩ V6 ⟨h1, hV⟩
        simp only at h1 hV
        subst h1 hV
        dsimp only [unc]
        refine br_intro (fun hb => ⟨?_, hV13⟩) (fun hb => ⟨inI64 (by omega) (by omega), ⟨rfl, i + 1, by omega, by omega, all_step hP (not_f hb)⟩, by omega⟩)
        rw [all_stop hlt (not_t hb)]
    · have hge : i = 12 := by have := of_decide_eq_false hge; omega
      subst hge
      exact ⟨by rw [hP], hV13⟩
end Go.Proofs.Ytpalkdmngckcoaa
