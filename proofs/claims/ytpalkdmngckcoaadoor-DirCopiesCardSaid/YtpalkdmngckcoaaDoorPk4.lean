/- Texts joined: RefMayOk, BackLaw, RootCutOk, Dir1Ok, TreeLaw, Dir2Ok, Set, CopyOk, Dir3Ok, DrFast, RootBackOk, Dir4Ok, In. -/
import Derived.Test.YtpalkdmngckcoaaDoorPk3
import Derived.Test.YtpalkdmngckcoaaDoorSoundC
/- The reference's MayTree: it answers as dir.May does. -/
namespace Go.Proofs.YtpalkdmngckcoaaDoor
open Go
def nodK (t : Tre) (i : Nat) : Bool := mayN (t.getD i default) && (entsT t i).all fun e => !decide (kindT t e.node.toNat = 0)
abbrev namedT (t : Tre) (a : Int) : Nat := (allE t).countP (fun (x : Ent) => decide (x.node = a))
noncomputable def onT (t : Tre) (i : Nat) : Bool := metB t 0 i && decide (kindT t i = 2)
noncomputable def hang2 (t : Tre) (i : Nat) : Bool :=
  if kindT t i = 2 then onT t i && (decide (i = 0) || decide (((namedT t i : Nat) : Int) = 1)) else if kindT t i = 1 then decide ((t.getD i default).links = (namedT t i : Nat)) else true
noncomputable def refMay (t : Tre) : Bool := decide (t.length = 12) && decide (kindT t 0 = 2) && (List.range 12).all (nodK t) && apartL (allS t) && (List.range 12).all (hang2 t)
theorem kind_of {n : Nod} (h : mayN n = true) : n.kind = 0 ∨ n.kind = 1 ∨ n.kind = 2 := by
  unfold mayN at h
  split at h
  · rename_i hk; exact .inl hk
  · split at h
    · rename_i hk; exact .inr (.inl hk)
    · split at h
      · rename_i hk; exact .inr (.inr hk)
      · cases h
theorem refMay_eq (t : Tre) : refMay t = mayT t := by
  by_cases h12 : t.length = 12
  rotate_left
  · unfold refMay mayT; rw [decide_eq_false h12]; rfl
  by_cases hk : kindT t 0 = 2
  rotate_left
  · unfold refMay mayT; rw [decide_eq_false hk]; simp
  by_cases hall : t.all mayN = true
  rotate_left
  · unfold refMay mayT
    have h1 : t.all mayN = false := by simpa using hall
    have h2 : (List.range 12).all (nodK t) = false := by
      rw [List.all_eq_false] at h1 ⊢
      obtain ⟨n, hn, hm⟩ := h1
      obtain ⟨i, hi, rfl⟩ := List.getElem_of_mem hn
      refine ⟨i, List.mem_range.2 (by omega), ?_⟩
      unfold nodK
      rw [getD_at hi]
      simp [hm]
    rw [h1, h2]; simp
  have hall' : ∀ n ∈ t, mayN n = true := List.all_eq_true.1 hall
  have hmem : ∀ i, i < 12 → t.getD i default ∈ t := fun i hi => by rw [getD_at (by omega)]; exact List.getElem_mem _
  have hmn : ∀ i, i < 12 → mayN (t.getD i default) = true := fun i hi => hall' _ (hmem i hi)
  unfold refMay mayT
  rw [decide_eq_true h12, decide_eq_true hk, hall]
  simp only [Bool.true_and, Bool.and_true]
  have hcnt : ∀ i, i < 12 → (cnt 12 (allE t)).getD i 0 = (namedT t i : Nat) := fun i hi => cnt_get 12 _ hi
  have hin : ∀ (i : Nat) (e : Ent), i < 12 → e ∈ entsT t i → e ∈ allE t := fun i e hi he => List.mem_flatMap.2 ⟨_, hmem i hi, he⟩
  rw [Bool.eq_iff_iff]
  simp only [Bool.and_eq_true, List.all_eq_true, List.mem_range]
  constructor
  · rintro ⟨⟨hN, hA⟩, hH⟩
    refine ⟨fun i hi => ?_, hA⟩
    have h2 := hH i hi
    rw [hcnt i hi]
    unfold hang2 at h2
    unfold hangB
    split at h2
    · rename_i hk2
      rw [if_pos hk2]
      unfold onT at h2
      simp only [Bool.and_eq_true] at h2
      rw [h2.1.1, Bool.true_and, ← h2.2]
      congr 1
      exact decide_eq_decide.2 (by omega)
    · rename_i hk2
      rw [if_neg hk2]
      split at h2
      · rename_i hk1; rw [if_pos hk1]; exact h2
      · rename_i hk1
        rw [if_neg hk1]
        have hk0 : kindT t i = 0 := by
          rcases kind_of (hmn i hi) with h | h | h
          · exact h
          · exact absurd h hk1
          · exact absurd h hk2
        apply decide_eq_true
        have : namedT t i = 0 := by
          rw [List.countP_eq_zero]
          intro e he hd
          have hd := of_decide_eq_true hd
          obtain ⟨n, hn, hen⟩ := List.mem_flatMap.1 he
          obtain ⟨j, hj, rfl⟩ := List.getElem_of_mem hn
          have hj12 : j < 12 := by omega
          have h3 := hN j hj12
          unfold nodK at h3
          simp only [Bool.and_eq_true, List.all_eq_true] at h3
          have h4 := h3.2 e (by show e ∈ (t.getD j default).ents; rw [getD_at hj]; exact hen)
          rw [hd, Int.toNat_natCast] at h4
          simp [hk0] at h4
        omega
  · rintro ⟨hH, hA⟩
    have hB : ∀ i, i < 12 → hangB (t.getD i default) i (namedT t i : Nat) (metB t 0 i) = true := fun i hi => by rw [← hcnt i hi]; exact hH i hi
    refine ⟨⟨fun i hi => ?_, hA⟩, fun i hi => ?_⟩
    · unfold nodK
      rw [hmn i hi, Bool.true_and, List.all_eq_true]
      intro e he
      have hnode := mayL_node (mayN_ents (hmn i hi)) he
      obtain ⟨q, hq⟩ : ∃ q : Nat, e.node = q := ⟨e.node.toNat, by omega⟩
      rw [hq, Int.toNat_natCast]
      have hb := hB q (by omega)
      by_cases hk0 : kindT t q = 0
      · exfalso
        unfold hangB at hb
        have hk0' : (t.getD q default).kind = 0 := hk0
        rw [if_neg (by omega), if_neg (by omega)] at hb
        have hb := of_decide_eq_true hb
        have : 0 < namedT t q := List.countP_pos_iff.2 ⟨e, hin i e hi he, decide_eq_true hq⟩
        omega
      · rw [decide_eq_false hk0]; rfl
    · have hb := hB i hi
      unfold hangB at hb
      unfold hang2
      split at hb
      · rename_i hk2
        rw [if_pos (show kindT t i = 2 from hk2)]
        simp only [Bool.and_eq_true] at hb
        unfold onT
        rw [hb.1, decide_eq_true (show kindT t i = 2 from hk2), Bool.true_and, Bool.true_and, ← hb.2]
        congr 1
        exact decide_eq_decide.2 (by omega)
      · rename_i hk2
        rw [if_neg (show ¬ kindT t i = 2 from hk2)]
        split at hb
        · rename_i hk1; rw [if_pos (show kindT t i = 1 from hk1)]; exact hb
        · rename_i hk1; rw [if_neg (show ¬ kindT t i = 1 from hk1)]
/-- A map that holds 1 behind what was met. -/
def SeenM (V : View) (r : Nat) (l : List Int) : Prop := ∃ es cl, V.see r = some (.map es cl) ∧ IntK es.toList ∧ ∀ k, (vlk k es.toList).getD (.int .i64 0) = .int .i64 (if k ∈ l then 1 else 0)
theorem SeenM.put {V : View} {r : Nat} {l : List Int} (h : SeenM V r l) (x : Int) : ∃ es cl f, V.see r = some (.map es cl) ∧ mfind (.int .i64 x) es.toList 0 = some f ∧ found (.int .i64 0) f = .int .i64 (if x ∈ l then 1 else 0) ∧ SeenM (V.put r (mput es cl f (.int .i64 x) (.int .i64 1))) r (l ++ [x]) := by
  obtain ⟨es, cl, hs, hk, hv⟩ := h
  obtain ⟨f, hf, hfd, es', cl', hm, hk', hv'⟩ := mput_int (cl := cl) (k := x) (v := .int .i64 1) hk
  refine ⟨es, cl, f, hs, hf, by rw [hfd, hv], es', cl', by rw [View.see_put_same, hm], hk', fun k => ?_⟩
  rw [hv']
  by_cases e : k = x
  · rw [if_pos e, if_pos (by simp [e])]; rfl
  · rw [if_neg e, hv]
    by_cases hm : k ∈ l
    · rw [if_pos hm, if_pos (by simp [hm])]
    · rw [if_neg hm, if_neg (by simp [hm, e])]
theorem apart_snoc2 {l : List Int} {x : Int} (h : apartL l = true) : apartL (l ++ [x]) = !(!decide (x = 0) && decide (x ∈ l)) := by
  rw [apart_snoc h, count_snoc, if_pos rfl]
  have : decide (1 < l.count x + 1) = decide (x ∈ l) := decide_eq_decide.2 (by rw [← List.count_pos_iff]; omega)
  rw [this]
theorem refMay_false {t : Tre} (h : (decide (t.length = 12) && decide (kindT t 0 = 2) && (List.range 12).all (nodK t) && apartL (allS t)) = false ∨ (List.range 12).all (hang2 t) = false) : refMay t = false := by
  unfold refMay
  rcases h with h | h
  · rw [h]; rfl
  · rw [h, Bool.and_false]
theorem refMay_bad {t : Tre} {i : Nat} (hi : i < 12) (h : nodK t i = false) : refMay t = false := refMay_false (.inl (by rw [all_stop hi h]; simp))
theorem refMay_twice {t : Tre} (h : apartL (allS t) = false) : refMay t = false := refMay_false (.inl (by rw [h]; simp))
theorem mayTree_ok {s : Sl} {t : Tre} {V : View} (h : SlR V s t) : CallV Tryd.prog 11 ⟨[treV s]⟩ V fun r V' => r = .bool (mayT t) ∧ V.Le V' := by
  rw [← refMay_eq]
  refine f11_x ?_
  unfold f11_n
  have hn := h.n
  refine fun _ => joinP_cut (fun q V' => q.1 = (!(decide (t.length = 12) && decide (kindT t 0 = 2))) ∧ V' = V) (br_intro (fun hb => ⟨?_, rfl⟩) (fun hb => ?_)) ?_
  · have hb : ¬ t.length = 12 := by have := of_decide_eq_false (not_t hb); omega
    rw [decide_eq_false hb]; rfl
  · have hb : t.length = 12 := by have := of_decide_eq_true (not_f hb); omega
    obtain ⟨ad, sq, en, ha, hc, hN⟩ := h.nodN (i := 0) (by omega)
    refine ⟨by omega, by omega, ad, ha, _, cellsAt_nth hc 0 rfl, ?_, rfl⟩
    rw [decide_eq_true hb]; rfl
  rintro ⟨q, ⟨⟩⟩ V1 ⟨h1, hV⟩
  simp only at h1 hV
  subst h1 hV
  dsimp only [unc]
  refine br_intro (fun hb => ⟨?_, View.Le.refl _⟩) (fun hb r hr => ?_)
  · have hb := not_t hb
    rw [refMay_false (.inl (by rw [hb]; rfl))]
  have hb := not_f hb
  simp only [Bool.and_eq_true, decide_eq_true_eq] at hb
  obtain ⟨h12, hk0⟩ := hb
  have hfr := View.see_none_of_ge hr
  refine loop1 (k := .int .i64) (fun (x : Int) V' => ∃ i : Nat, x = i ∧ i ≤ 12 ∧ (List.range i).all (nodK t) = true ∧ apartL (allS (t.take i)) = true ∧ SeenM V' r (allS (t.take i)) ∧ V1.Le (V'.hide r)) (fun (x : Int) _ => 12 - x.toNat) ⟨0, rfl, by omega, rfl, rfl, ⟨_, _, View.see_put_same _ _ _, fun e he => (by cases he), fun k => rfl⟩, put_le_hide hfr (View.Le.refl _)⟩ ?_
  rintro (x : Int) V2 ⟨i, rfl, hi, hall, hap, hS2, hV2⟩
  have hV2' : V1.Le V2 := hV2.trans (View.hide_le _ _)
  refine br_intro (fun hlt => ?_) (fun hge => ?_)
  · have hlt : i < 12 := by have := of_decide_eq_true hlt; omega
    obtain ⟨ad, sq, en, ha, hc, hN⟩ := h.nodN (i := i) (by omega)
    refine ⟨by omega, by omega, ad, ha, _, _, _, sq, en, cellsAt_mono hV2' hc, fun _ => (refN_ok (hN.mono hV2')).mono ?_⟩
    rintro r1 V3 ⟨rfl, rfl⟩
    refine ⟨_, rfl, br_intro (fun hb => ⟨?_, hV2'⟩) (fun hb => ?_)⟩
    · rw [refMay_bad hlt (by unfold nodK; rw [not_t hb]; rfl)]
    have hm := not_f hb
    have hen := hN.ents.n
    have hsn := hN.seqs.n
    have hs5 := mayN_seqs hm
    have he10 := mayL_len (mayN_ents hm)
    refine loop1 (k := .int .i64) (fun (x : Int) V' => V' = V3 ∧ ∃ k : Nat, x = k ∧ k ≤ (entsT t i).length ∧ ((entsT t i).take k).all (fun e => !decide (kindT t e.node.toNat = 0)) = true) (fun (x : Int) _ => (entsT t i).length - x.toNat) ⟨rfl, 0, rfl, by omega, rfl⟩ ?_
    rintro (x : Int) V4 ⟨rfl, k, rfl, hk, hek⟩
    have hlene : (entsT t i).length = (t.getD i default).ents.length := rfl
    refine br_intro (fun hltk => ?_) (fun hge => ?_)
    · have hltk : k < (t.getD i default).ents.length := by have := of_decide_eq_true hltk; omega
      obtain ⟨ad, ha, hc, _, _⟩ := (hN.ents.mono hV2').entN hltk
      have hxm : (t.getD i default).ents.getD k default ∈ (t.getD i default).ents := by rw [getD_at hltk]; exact List.getElem_mem _
      have hq := mayL_node (mayN_ents hm) hxm
      obtain ⟨q, hqe⟩ : ∃ q : Nat, ((t.getD i default).ents.getD k default).node = q := ⟨((t.getD i default).ents.getD k default).node.toNat, by omega⟩
      obtain ⟨ad4, sq4, en4, ha4, hc4, _⟩ := (h.mono hV2').nodN (i := q) (by omega)
      refine ⟨by omega, by omega, ad, ha, _, _, hc, fun _ => ⟨by omega, by omega, ad4, ha4, (t.getD q default).kind, ?_, br_intro (fun hz => ⟨?_, hV2'⟩) (fun hz => ⟨inI64 (by omega) (by omega), ⟨rfl, k + 1, by omega, by omega, ?_⟩, by omega⟩)⟩⟩
      · rw [hqe]; exact cellsAt_nth hc4 0 rfl
      · have hz := of_decide_eq_true hz
        rw [refMay_bad hlt]
        unfold nodK
        rw [Bool.and_eq_false_iff]
        right
        rw [List.all_eq_false]
        exact ⟨_, hxm, by rw [hqe, Int.toNat_natCast, decide_eq_true (show kindT t q = 0 from hz)]; simp⟩
      · have hz := of_decide_eq_false hz
        rw [List.take_add_one, List.getElem?_eq_getElem (show k < (entsT t i).length from hltk), List.all_append, hek]
        have e1 : (entsT t i)[k]'hltk = (t.getD i default).ents.getD k default := (getD_at hltk).symm
        show (true && [(entsT t i)[k]'hltk].all _) = true
        rw [e1]
        simp only [List.all_cons, List.all_nil, hqe, Int.toNat_natCast, Bool.true_and, Bool.and_true]
        rw [decide_eq_false (show ¬ kindT t q = 0 from hz)]; rfl
    · have hge : k = (entsT t i).length := by have := of_decide_eq_false hge; omega
      subst hge
      rw [List.take_length] at hek
      have hnk : nodK t i = true := by unfold nodK; rw [hm, hek]; rfl
      have hpre := allS_prefix t (i + 1)
      rw [allS_take (by omega)] at hpre
      have htake := allS_take (t := t) (i := i) (by omega)
      generalize hnd : t.getD i default = nd at *
      refine loop1 (k := .int .i64) (fun (x : Int) V' => ∃ k : Nat, x = k ∧ k ≤ nd.seqs.length ∧ SeenM V' r (allS (t.take i) ++ nd.seqs.take k) ∧ apartL (allS (t.take i) ++ nd.seqs.take k) = true ∧ V1.Le (V'.hide r)) (fun (x : Int) _ => nd.seqs.length - x.toNat) ⟨0, rfl, by omega, by simpa using hS2, by simpa using hap, hV2⟩ ?_
      rintro (x : Int) V5 ⟨k, rfl, hk, hS5, hap5, hV5⟩
      have hV5' : V1.Le V5 := hV5.trans (View.hide_le _ _)
      refine br_intro (fun hltk => ?_) (fun hge => ?_)
      · have hltk : k < nd.seqs.length := by have := of_decide_eq_true hltk; omega
        obtain ⟨ad, ha, hc, _⟩ := (hN.seqs.mono hV5').intN hltk
        have etk : nd.seqs.take (k + 1) = nd.seqs.take k ++ [nd.seqs.getD k 0] := by rw [List.take_add_one, List.getElem?_eq_getElem hltk, getD_at0 hltk]; rfl
        have hpre2 : allS (t.take i) ++ nd.seqs.take (k + 1) <+: allS t := by
          refine List.IsPrefix.trans ?_ hpre
          rw [List.prefix_append_right_inj]
          exact List.take_prefix _ _
        rw [etk, ← List.append_assoc] at hpre2
        refine ⟨by omega, by omega, ad, ha, _, hc, ?_⟩
        generalize nd.seqs.getD k 0 = x at *
        obtain ⟨es, cl, f, hse, hmf, hfd, hput⟩ := hS5.put x
        refine joinP_cut (fun q V' => q.1 = (!apartL (allS (t.take i) ++ nd.seqs.take k ++ [x])) ∧ V' = V5) (br_intro (fun hx0 => ⟨trivial, es, cl, f, hse, hmf, _, hfd, ?_, rfl⟩) (fun hx0 => ⟨?_, rfl⟩)) ?_
        · rw [apart_snoc2 hap5, hx0, Bool.true_and, Bool.not_not]
          by_cases hm : x ∈ allS (t.take i) ++ nd.seqs.take k
          · rw [if_pos hm, decide_eq_true hm]; rfl
          · rw [if_neg hm, decide_eq_false hm]; rfl
        · rw [apart_snoc2 hap5, hx0]; rfl
        · rintro ⟨q, ⟨⟩⟩ V6 ⟨h1, hV⟩
          simp only at h1 hV
          subst h1 hV
          dsimp only [unc]
          refine br_intro (fun hb => ⟨?_, hV5'⟩) (fun hb => ⟨trivial, r, es, cl, f, rfl, hse, hmf, inI64 (by omega) (by omega), ⟨k + 1, by omega, by omega, ?_, ?_, hV5.trans (hide_le_put_hide r _)⟩, by omega⟩)
          · rw [refMay_twice (apart_prefix hpre2 (not_t hb))]
          · rw [etk, ← List.append_assoc]; exact hput
          · rw [etk, ← List.append_assoc]; exact not_f hb
      · have hge : k = nd.seqs.length := by have := of_decide_eq_false hge; omega
        subst hge
        rw [List.take_length] at hS5 hap5
        exact ⟨inI64 (by omega) (by omega), ⟨i + 1, by omega, by omega, all_step hall hnk, by rw [htake]; exact hap5, by rw [htake]; exact hS5, hV5⟩, by omega⟩
  · have hge : i = 12 := by have := of_decide_eq_false hge; omega
    subst hge
    rw [List.take_of_length_le (by omega)] at hap
    have hnod : ∀ i, i < 12 → nodK t i = true := fun i hi => List.all_eq_true.1 hall i (List.mem_range.2 hi)
    have hallN : ∀ n ∈ t, mayN n = true := fun n hn => by
      obtain ⟨j, hj, rfl⟩ := List.getElem_of_mem hn
      have := hnod j (by omega)
      unfold nodK at this
      rw [getD_at hj] at this
      simp only [Bool.and_eq_true] at this
      exact this.1
    have hR : refMay t = (List.range 12).all (hang2 t) := by
      unfold refMay
      rw [decide_eq_true h12, decide_eq_true hk0, hall, hap]; rfl
    rw [hR]
    have hE : ∀ n ∈ t, n.ents.length ≤ 10 := fun n hn => mayL_len (mayN_ents (hallN n hn))
    refine (reached_ok (h.mono hV2') h12 hallN hk0).mono ?_
    rintro r1 V3 ⟨y, rfl, hy, hV3⟩
    have hV13 := hV2'.trans hV3
    refine ⟨y, rfl, ?_⟩
    refine loop1 (k := .int .i64) (fun (x : Int) V' => V' = V3 ∧ ∃ i : Nat, x = i ∧ i ≤ 12 ∧ (List.range i).all (hang2 t) = true) (fun (x : Int) _ => 12 - x.toNat) ⟨rfl, 0, rfl, by omega, rfl⟩ ?_
    rintro (x : Int) V4 ⟨rfl, i, rfl, hi, hP⟩
    refine br_intro (fun hlt => ?_) (fun hge => ?_)
    · have hlt : i < 12 := by have := of_decide_eq_true hlt; omega
      obtain ⟨ad, sq, en, ha, hc, hN⟩ := (h.mono hV13).nodN (i := i) (by omega)
      refine ⟨by omega, by omega, ad, ha, _, _, _, sq, en, hc, fun _ => (named_ok (h.mono hV13) h12 hE).mono ?_⟩
      rintro r1 V5 ⟨rfl, rfl⟩
      refine ⟨_, rfl, ?_⟩
      have hyn := hy.n
      simp only [List.length_map, List.length_range] at hyn
      refine joinP_cut (fun q V' => q.1 = (!hang2 t i) ∧ V' = V5) (br_intro (fun h2 => ?_) (fun h2 => ⟨?_, rfl⟩)) ?_
      · have h2 : kindT t i = 2 := of_decide_eq_true h2
        obtain ⟨ad3, hx', ha3, hc3⟩ := hy.bool (x := (i : Int)) (by omega) (by omega)
        have e3 : ((List.range 12).map fun j => metB t 0 j && decide (kindT t j = 2))[((i : Int)).toNat] = onT t i := by simp [onT]
        rw [e3] at hc3
        refine ⟨by omega, by omega, ad3, ha3, _, hc3, ?_, rfl⟩
        unfold hang2
        rw [if_pos h2]
        have h2' : (t.getD i default).kind = 2 := h2
        rw [decide_eq_false (show ¬ (t.getD i default).kind = 1 by omega)]
        have d1 : decide ((0 : Int) < (i : Int)) = !decide (i = 0) := dec_not (by omega)
        rw [d1]
        cases onT t i <;> cases decide (i = 0) <;> cases decide (((namedT t i : Nat) : Int) = 1) <;> rfl
      · have h2 : ¬ kindT t i = 2 := of_decide_eq_false h2
        unfold hang2
        rw [if_neg h2]
        by_cases h1 : kindT t i = 1
        · rw [if_pos h1, decide_eq_true (show (t.getD i default).kind = 1 from h1)]; rfl
        · rw [if_neg h1, decide_eq_false (show ¬ (t.getD i default).kind = 1 from h1)]; rfl
      · rintro ⟨q, ⟨⟩⟩ V6 ⟨h1, hV⟩
        simp only at h1 hV
        subst h1 hV
        dsimp only [unc]
        refine br_intro (fun hb => ⟨?_, hV13⟩) (fun hb => ⟨inI64 (by omega) (by omega), ⟨rfl, i + 1, by omega, by omega, all_step hP (not_f hb)⟩, by omega⟩)
        rw [all_stop hlt (not_t hb)]
    · have hge : i = 12 := by have := of_decide_eq_false hge; omega
      subst hge
      exact ⟨by rw [hP], hV13⟩
end Go.Proofs.YtpalkdmngckcoaaDoor

/- What is written is read as it was. No program in this text. -/
namespace Go.Proofs.YtpalkdmngckcoaaDoor
open Go
theorem rdN_enc {n : Int} {most : Nat} {r : List UInt8} (h0 : 0 ≤ n) (h1 : n ≤ most) (hm : most ≤ 1099511627776) : rdN (some (numI n ++ r)) most = (n, some r) := by
  have hc : clampN n = n.toNat := by unfold clampN; omega
  unfold rdN numI
  simp only [hc]
  rw [numP_numL (n := n.toNat) (most := most) (by omega) (by omega) r]
  simp only
  rw [Int.toNat_of_nonneg h0]
theorem rdT_enc {b : List UInt8} {most : Nat} {r : List UInt8} (h1 : b.length ≤ most) (hm : most ≤ 1099511627776) : rdT (some (textL b ++ r)) most = (b, some r) := by
  have hp : textP most (textL b ++ r) = some (b, r) := by
    unfold textP textL numI
    rw [clampN_nat (by omega), List.append_assoc, numP_numL (by omega) h1]
    simp only
    rw [if_neg (by simp), List.take_left' rfl, List.drop_left' rfl]
  simp only [rdT, hp]
theorem rdSeqs_enc : ∀ (k : Nat) (l : List Int) (r : List UInt8), l.length = k → (∀ n ∈ l, 0 ≤ n ∧ n ≤ 1099511627776) → rdSeqs k (some (numsL l ++ r)) = (l, some r)
  | 0, l, r, hl, _ => by
    have := List.eq_nil_of_length_eq_zero hl
    subst this; rfl
  | k + 1, l, r, hl, hr => by
    rcases List.eq_nil_or_concat l with h1 | ⟨l', x, h1⟩
    · rw [h1] at hl; cases hl
    · have h1 : l = l' ++ [x] := by simpa using h1
      subst h1
      have hx := hr x (by simp)
      have ih := rdSeqs_enc k l' (numI x ++ r) (by simpa using hl) fun n hn => hr n (by simp [hn])
      rw [numsL_append, numsL_one, List.append_assoc]
      unfold rdSeqs
      rw [ih]
      simp only
      rw [rdN_enc hx.1 hx.2 (by decide)]
theorem rdEnts_enc : ∀ (k : Nat) (l : List Ent) (r : List UInt8), l.length = k → (∀ e ∈ l, e.name.size ≤ 8 ∧ 0 ≤ e.node ∧ e.node ≤ 11) → rdEnts k (some (encEs l ++ r)) = (l, some r)
  | 0, l, r, hl, _ => by
    have := List.eq_nil_of_length_eq_zero hl
    subst this; rfl
  | k + 1, l, r, hl, hr => by
    rcases List.eq_nil_or_concat l with h1 | ⟨l', x, h1⟩
    · rw [h1] at hl; cases hl
    · have h1 : l = l' ++ [x] := by simpa using h1
      subst h1
      have hx := hr x (by simp)
      have ih := rdEnts_enc k l' (textL (bl x.name) ++ (numI x.node ++ r)) (by simpa using hl) fun n hn => hr n (by simp [hn])
      rw [encEs_snoc]
      unfold encE
      rw [List.append_assoc, List.append_assoc]
      unfold rdEnts
      rw [ih]
      simp only
      rw [rdT_enc (by rw [bl_len]; exact hx.1) (by decide)]
      simp only
      rw [rdN_enc hx.2.1 (by omega) (by decide), ba_bl]
theorem rdNod_enc {n : Nod} {r : List UInt8} (h : mayN n = true) : rdNod (some (encN n ++ r)) = (n, some r) := by
  obtain ⟨kind, links, size, seqs, ents⟩ := n
  have hm := h
  unfold mayN at hm
  simp only at hm
  split at hm
  · rename_i hk
    subst hk
    simp only [Bool.and_eq_true, decide_eq_true_eq, List.length_eq_zero_iff] at hm
    obtain ⟨⟨⟨rfl, rfl⟩, rfl⟩, rfl⟩ := hm
    rw [encN_0 (by decide) (by decide)]
    unfold rdNod
    rw [rdN_enc (by decide) (by decide) (by decide)]
    rfl
  · split at hm
    · rename_i hk
      subst hk
      unfold fileB within at hm
      simp only [Bool.and_eq_true, decide_eq_true_eq, List.length_eq_zero_iff, List.all_eq_true, List.mem_range] at hm
      obtain ⟨⟨⟨⟨⟨l0, l1⟩, ⟨z0, z1⟩⟩, h5⟩, rfl⟩, hs⟩ := hm
      have hs2 : ∀ n ∈ seqs, 0 ≤ n ∧ n ≤ 1099511627776 := fun n hn => by
        obtain ⟨i, hi, rfl⟩ := List.getElem_of_mem hn
        have := hs i hi
        unfold okS within at this
        rw [getD_at0 hi] at this
        simp only [Bool.and_eq_true, decide_eq_true_eq] at this
        exact this.1
      rw [encN_1 rfl]
      simp only [List.append_assoc]
      unfold rdNod
      rw [rdN_enc (n := 1) (by decide) (by decide) (by decide)]
      simp only [if_pos]
      unfold rdFile
      rw [rdN_enc l0 (by exact l1) (by decide)]
      simp only
      rw [rdN_enc z0 (by exact z1) (by decide)]
      simp only
      rw [rdSeqs_enc 5 seqs r h5 hs2]
    · split at hm
      · rename_i h1 hk
        subst hk
        simp only [Bool.and_eq_true, decide_eq_true_eq, List.length_eq_zero_iff] at hm
        obtain ⟨⟨⟨rfl, rfl⟩, rfl⟩, hl⟩ := hm
        have h10 := mayL_len hl
        have he : ∀ e ∈ ents, e.name.size ≤ 8 ∧ 0 ≤ e.node ∧ e.node ≤ 11 := fun e he => by
          have := mayL_node hl he
          have := mayB_size this.2.2
          omega
        rw [encN_2 rfl]
        simp only [List.append_assoc]
        unfold rdNod
        rw [rdN_enc (n := 2) (by decide) (by decide) (by decide)]
        simp only
        rw [if_neg (by decide), if_pos trivial]
        unfold rdDir
        rw [rdN_enc (n := ((ents.length : Nat) : Int)) (by omega) (by omega) (by decide)]
        simp only [Int.toNat_natCast]
        rw [rdEnts_enc ents.length ents r rfl he]
      · cases hm
theorem rdTre_enc : ∀ (k : Nat) (t : Tre) (r : List UInt8), t.length = k → (∀ n ∈ t, mayN n = true) → rdTre k (some (encT t ++ r)) = (t, some r)
  | 0, t, r, hl, _ => by
    have := List.eq_nil_of_length_eq_zero hl
    subst this; rfl
  | k + 1, t, r, hl, hr => by
    rcases List.eq_nil_or_concat t with h1 | ⟨t', x, h1⟩
    · rw [h1] at hl; cases hl
    · have h1 : t = t' ++ [x] := by simpa using h1
      subst h1
      have hx := hr x (by simp)
      have ih := rdTre_enc k t' (encN x ++ r) (by simpa using hl) fun n hn => hr n (by simp [hn])
      rw [encT_snoc, List.append_assoc]
      unfold rdTre
      rw [ih]
      simp only
      rw [rdNod_enc hx]
theorem mayT_facts {t : Tre} (h : mayT t = true) : t.length = 12 ∧ (∀ n ∈ t, mayN n = true) ∧ apartL (allS t) = true := by
  unfold mayT at h
  simp only [Bool.and_eq_true, decide_eq_true_eq, List.all_eq_true] at h
  exact ⟨h.1.1.1.1, h.1.1.1.2, h.2⟩
theorem rdT_full {t : Tre} (h : mayT t = true) (r : List UInt8) : rdTre 12 (some (encT t ++ r)) = (t, some r) := rdTre_enc 12 t r (mayT_facts h).1 (mayT_facts h).2.1
/-- What is written is read as it was. -/
theorem parseT_back {t : Tre} (h : mayT t = true) : parseT (encT t) = some t := by
  have := rdT_full h []
  rw [List.append_nil] at this
  unfold parseT
  rw [this, if_pos ⟨rfl, h⟩]
/-- Two trees with the same bytes are the same. -/
theorem encT_inj {t u : Tre} (ht : mayT t = true) (hu : mayT u = true) (h : encT t = encT u) : t = u := by
  have := parseT_back ht
  rw [h, parseT_back hu] at this
  exact (Option.some.inj this).symm
theorem parseT_cut {t : Tre} {m : Nat} (h : mayT t = true) (hm : m < (encT t).length) : parseT ((encT t).take m) = none := by
  cases hp : parseT ((encT t).take m) with
  | none => rfl
  | some u =>
    exfalso
    obtain ⟨hu, he⟩ := parseT_enc hp
    have h1 := rdT_full h []
    have h2 := rdT_full hu ((encT t).drop m)
    rw [he, List.take_append_drop] at h2
    rw [List.append_nil, h2] at h1
    have h3 : (encT t).drop m = [] := Option.some.inj (Prod.mk.inj h1).2
    have := List.length_drop (i := m) (l := encT t)
    rw [h3] at this
    simp at this
    omega
theorem parseT_more {t : Tre} {c : UInt8} (h : mayT t = true) : parseT (encT t ++ [c]) = none := by
  unfold parseT
  rw [rdT_full h [c], if_neg (by rintro ⟨h, _⟩; simp at h)]
theorem encN_pos (n : Nod) : 0 < (encN n).length := by
  unfold encN numI numL
  simp only [List.length_append, List.length_cons, List.length_nil]
  omega
theorem encT_pos {t : Tre} (h : mayT t = true) : 0 < (encT t).length := by
  have h12 := (mayT_facts h).1
  cases t with
  | nil => cases h12
  | cons n t =>
    have e : encT (n :: t) = encN n ++ encT t := by simp [encT]
    have := encN_pos n
    rw [e, List.length_append]; omega
end Go.Proofs.YtpalkdmngckcoaaDoor

/- RootCut: bytes that are cut short, or have one more behind, are no tree. -/
namespace Go.Proofs.YtpalkdmngckcoaaDoor
open Go
theorem wrap_u64_nn (a : Int) : 0 ≤ IntKind.u64.wrap a := by
  unfold IntKind.wrap
  simp [IntKind.signed, IntKind.bits]
  omega
theorem wrap_u64_id {a : Int} (h0 : 0 ≤ a) (h1 : a ≤ 9223372036854775807) : IntKind.u64.wrap a = a := by
  unfold IntKind.wrap
  simp [IntKind.signed, IntKind.bits]
  omega
end Go.Proofs.YtpalkdmngckcoaaDoor

/- DirFrees, DirInside. -/
namespace Go.Proofs.YtpalkdmngckcoaaDoor
open Go
theorem freeT_range {t : Tre} : freeT t = -1 ∨ (0 ≤ freeT t ∧ freeT t < t.length) := by
  unfold freeT
  split
  · rcases idxI_range (fun n : Nod => decide (n.kind = 0)) t with ⟨h, _⟩ | ⟨h1, h2, _⟩
    · exact .inl h
    · exact .inr ⟨h1, h2⟩
  · exact .inl rfl
theorem freeT_spec {t : Tre} (h : mayT t = true) : (freeT t = -1 ∧ ∀ i, i < t.length → kindT t i ≠ 0) ∨ ∃ f : Nat, freeT t = f ∧ f < t.length ∧ kindT t f = 0 ∧ ∀ i, i < f → kindT t i ≠ 0 := by
  unfold freeT
  rw [if_pos h]
  generalize hp : (fun n : Nod => decide (n.kind = 0)) = p
  have key : ∀ l : Tre, (idxI p l = -1 ∧ ∀ i, i < l.length → (l.getD i default).kind ≠ 0) ∨ ∃ f : Nat, idxI p l = f ∧ f < l.length ∧ (l.getD f default).kind = 0 ∧ ∀ i, i < f → (l.getD i default).kind ≠ 0 := by
    intro l
    induction l with
    | nil => exact .inl ⟨rfl, fun i hi => absurd hi (by simp)⟩
    | cons n l ih =>
      unfold idxI
      by_cases hn : n.kind = 0
      · right
        refine ⟨0, ?_, by simp, by simpa using hn, fun i hi => absurd hi (by omega)⟩
        rw [if_pos (by rw [← hp]; exact decide_eq_true hn)]; rfl
      · rw [if_neg (by rw [← hp]; simpa using hn)]
        rcases ih with ⟨h1, h2⟩ | ⟨f, h1, h2, h3, h4⟩
        · left
          refine ⟨by rw [h1]; rfl, fun i hi => ?_⟩
          cases i with
          | zero => simpa using hn
          | succ i => simpa using h2 i (by simpa using hi)
        · right
          refine ⟨f + 1, by rw [h1]; simp, by simpa using h2, by simpa using h3, fun i hi => ?_⟩
          cases i with
          | zero => simpa using hn
          | succ i => simpa using h4 i (by omega)
  exact key t
/-- What a law asks first: is the tree light, may it be? -/
theorem guard_ok {s : Sl} {t : Tre} {V : View} (h : SlR V s t) : ∀ {P : Bool → View → Prop}, (∀ V' q, (q = false → mayT t = true ∧ LightT t) → (q = true → mayT t = false ∨ ¬ (t.length = 12 ∧ ∀ n ∈ t, mayN n = true)) → V.Le V' → P q V') →
    CallV Tryd.prog 10 ⟨[treV s]⟩ V fun r V' => ∃ x : Int, r = .int .i64 x ∧ br (decide (0 < x)) (P true V') (CallV Tryd.prog 11 ⟨[treV s]⟩ V' fun r V' => ∃ x : Bool, r = .bool x ∧ P (!x) V') := by
  intro P hP
  refine (light15s_ok h).mono ?_
  rintro r V1 ⟨x, rfl, x0, x1, x2, x3, rfl⟩
  refine ⟨x, rfl, br_intro (fun hb => hP _ _ (fun h => by cases h) (fun _ => .inr fun hm => ?_) (View.Le.refl _)) (fun hb => (mayTree_ok h).mono ?_)⟩
  · have := x3 hm
    have := of_decide_eq_true hb
    omega
  · have hb := of_decide_eq_false hb
    rintro r V2 ⟨rfl, hV2⟩
    exact ⟨_, rfl, hP _ _ (fun hq => ⟨not_f hq, x2 (by omega)⟩) (fun hq => .inl (not_t hq)) hV2⟩
theorem mayT_no {t : Tre} (h : mayT t = false ∨ ¬ (t.length = 12 ∧ ∀ n ∈ t, mayN n = true)) : mayT t = false := by
  rcases h with h | h
  · exact h
  · cases hM : mayT t
    · rfl
    · exact absurd ⟨(mayT_all hM).1, (mayT_all hM).2.1⟩ h
theorem dirFrees_ok {s : Sl} {t : Tre} {V : View} (h : SlR V s t) (hg : Glo V) : CallV Tryd.prog 3 ⟨[treV s]⟩ V fun r V' => r = .bool true ∧ V.Le V' := by
  refine f3_x ?_
  unfold f3_n
  refine fun _ => joinP_cut (fun q V' => (q.1 = false → mayT t = true) ∧ (q.1 = true → mayT t = false) ∧ V.Le V') (guard_ok h fun V' q h1 h2 hV => ⟨fun hq => (h1 hq).1, fun hq => mayT_no (h2 hq), hV⟩) ?_
  rintro ⟨q, ⟨⟩⟩ V1 ⟨h1, h2, hV1⟩
  dsimp only [unc]
  refine br_intro (fun hq => ?_) (fun hq => ?_)
  · have hM := h2 hq
    refine joinP_cut (fun g V' => g.1 = true ∧ V.Le V') ((mayTree_ok (h.mono hV1)).mono ?_) ?_
    · rintro r V2 ⟨rfl, hV2⟩
      rw [hM]
      exact ⟨_, rfl, br_intro (fun _ => awake15J (hV1.trans hV2) (hg.mono (hV1.trans hV2)) fun V' hV => ⟨rfl, hV⟩) (fun h => absurd h (by decide))⟩
    · rintro ⟨g, ⟨⟩⟩ V2 ⟨hg1, hV⟩
      simp only at hg1
      subst hg1
      exact ⟨rfl, hV⟩
  · have hM := h1 hq
    have h12 := (mayT_all hM).1
    have hn := h.n
    refine (free_ok (h.mono hV1)).mono ?_
    rintro r V2 ⟨rfl, hV2⟩
    have hV02 := hV1.trans hV2
    have hk0 := (mayT_all hM).2.2.1
    have hsp := freeT_spec hM
    refine ⟨_, rfl, br_intro (fun hb => ?_) (fun hb => ?_)⟩
    · exfalso
      have : freeT t = 0 := by
        rcases freeT_range (t := t) with h0 | ⟨h0, h9⟩
        · rw [h0, decide_eq_false (show ¬ (s.n : Int) ≤ -1 by omega)] at hb
          cases hb
        · rw [decide_eq_false (show ¬ freeT t < -1 by omega), decide_eq_false (show ¬ (s.n : Int) ≤ freeT t by omega)] at hb
          exact of_decide_eq_true hb
      rcases hsp with ⟨h9, _⟩ | ⟨f, h8, h9, h10, _⟩
      · omega
      · have : f = 0 := by omega
        subst this
        rw [hk0] at h10; cases h10
    · refine loop1 (k := .int .i64) (fun (j : Int) V' => V' = V2 ∧ ∃ i : Nat, j = i ∧ i ≤ 12) (fun (j : Int) _ => 12 - j.toNat) ⟨rfl, 0, rfl, by omega⟩ ?_
      rintro (j : Int) V3 ⟨rfl, i, rfl, hi⟩
      refine br_intro (fun hlt => ?_) (fun hge => awake15J hV02 (hg.mono hV02) fun V' hV => ⟨rfl, hV⟩)
      have hlt : i < 12 := by have := of_decide_eq_true hlt; omega
      obtain ⟨ad, sq, en, ha, hc, hN⟩ := (h.mono hV02).nodN (i := i) (by omega)
      refine ⟨by omega, by omega, ad, ha, _, _, _, sq, en, hc, fun _ => br_intro (fun hx => ?_) (fun _ => ⟨inI64 (by omega) (by omega), ⟨rfl, i + 1, by omega, by omega⟩, by omega⟩)⟩
      exfalso
      by_cases hk : kindT t i = 0
      · rw [decide_eq_true (show (t.getD i default).kind = 0 from hk)] at hx
        rcases hsp with ⟨h9, h10⟩ | ⟨f, h8, h9, h10, h11⟩
        · exact h10 i (by omega) hk
        · have hle : ¬ i < f := fun hl => h11 i hl hk
          rw [h8, decide_eq_false (show ¬ (f : Int) < 0 by omega), decide_eq_false (show ¬ (i : Int) < (f : Int) by omega)] at hx
          cases h : decide ((i : Int) = (f : Int)) <;> rw [h] at hx <;> cases hx
      · rw [decide_eq_false (show ¬ (t.getD i default).kind = 0 from hk)] at hx
        rcases hsp with ⟨h9, h10⟩ | ⟨f, h8, h9, h10, h11⟩
        · rw [h9, decide_eq_false (show ¬ (i : Int) = -1 by omega)] at hx; cases hx
        · have : ¬ (i : Int) = (f : Int) := fun e => by
            have : i = f := by omega
            subst this; exact hk h10
          rw [h8, decide_eq_false this] at hx; cases hx
end Go.Proofs.YtpalkdmngckcoaaDoor

/- How the nodes of a tree that may be hang together: plain laws. -/
namespace Go.Proofs.YtpalkdmngckcoaaDoor
open Go
theorem Reach.trans {t : Tre} {a b c : Nat} (h : Reach t a b) (k : Reach t b c) : Reach t a c := by
  induction k with
  | refl => exact h
  | step _ hx ih => exact .step ih hx
theorem allE_cons (n : Nod) (t : Tre) : allE (n :: t) = n.ents ++ allE t := by simp [allE]
theorem named_one {t : Tre} {x : Int} : ∀ {i : Nat} {e : Ent}, e ∈ (t.getD i default).ents → e.node = x → 1 ≤ namedT t x := by
  intro i e he hx
  refine List.countP_pos_iff.2 ⟨e, ?_, decide_eq_true hx⟩
  unfold allE
  refine List.mem_flatMap.2 ⟨t.getD i default, ?_, he⟩
  by_cases hi : i < t.length
  · exact getD_mem hi
  · rw [List.getD_eq_getElem?_getD, List.getElem?_eq_none (by omega)] at he
    cases he
theorem named_two {x : Int} : ∀ {t : Tre} {i p : Nat} {e e' : Ent}, i < p → e ∈ (t.getD i default).ents → e' ∈ (t.getD p default).ents → e.node = x → e'.node = x → 2 ≤ namedT t x
  | [], i, p, e, e', _, he, _, _, _ => by cases he
  | n :: t, 0, p + 1, e, e', _, he, he', hx, hx' => by
    unfold namedT
    rw [allE_cons, List.countP_append]
    have h1 : 1 ≤ n.ents.countP fun x_1 => decide (x_1.node = x) := List.countP_pos_iff.2 ⟨e, by simpa using he, decide_eq_true hx⟩
    have h2 : 1 ≤ namedT t x := named_one (i := p) (e := e') (by simpa using he') hx'
    unfold namedT at h2
    omega
  | n :: t, i + 1, p + 1, e, e', hip, he, he', hx, hx' => by
    have h := named_two (t := t) (i := i) (p := p) (by omega) (by simpa using he) (by simpa using he') hx hx'
    unfold namedT at h ⊢
    rw [allE_cons, List.countP_append]
    omega
theorem named_same {t : Tre} {x : Int} (h : namedT t x ≤ 1) {i p : Nat} {e e' : Ent} (he : e ∈ (t.getD i default).ents) (he' : e' ∈ (t.getD p default).ents) (hx : e.node = x) (hx' : e'.node = x) : i = p := by
  rcases Nat.lt_trichotomy i p with hl | hl | hl
  · have := named_two hl he he' hx hx'; omega
  · exact hl
  · have := named_two hl he' he hx' hx; omega
/-- What is known of a tree that may be. -/
structure MayF (t : Tre) : Prop where
  len : t.length = 12
  may : ∀ n ∈ t, mayN n = true
  top : kindT t 0 = 2
  dir : ∀ i, i < 12 → kindT t i = 2 → Reach t 0 i ∧ (i = 0 ∨ namedT t i = 1)
  file : ∀ i, i < 12 → kindT t i = 1 → (t.getD i default).links = (namedT t i : Nat)
  none : ∀ i, i < 12 → kindT t i = 0 → namedT t i = 0
theorem mayF {t : Tre} (h : mayT t = true) : MayF t := by
  obtain ⟨h12, hall, hk, hh, _⟩ := mayT_all h
  have hc : ∀ i, i < 12 → (cnt 12 (allE t)).getD i 0 = (namedT t i : Nat) := fun i hi => cnt_get 12 (allE t) hi
  refine ⟨h12, hall, hk, fun i hi hk2 => ?_, fun i hi hk1 => ?_, fun i hi hk0 => ?_⟩
  · have hb := hh i hi
    rw [hc i hi] at hb
    unfold hangB at hb
    rw [if_pos (show (t.getD i default).kind = 2 from hk2)] at hb
    simp only [Bool.and_eq_true, Bool.or_eq_true, decide_eq_true_eq] at hb
    exact ⟨metB_iff.1 hb.1, by omega⟩
  · have hb := hh i hi
    rw [hc i hi] at hb
    unfold hangB at hb
    rw [if_neg (show ¬ (t.getD i default).kind = 2 by unfold kindT at hk1; omega), if_pos (show (t.getD i default).kind = 1 from hk1)] at hb
    exact of_decide_eq_true hb
  · have hb := hh i hi
    rw [hc i hi] at hb
    unfold hangB at hb
    rw [if_neg (show ¬ (t.getD i default).kind = 2 by unfold kindT at hk0; omega), if_neg (show ¬ (t.getD i default).kind = 1 by unfold kindT at hk0; omega)] at hb
    have := of_decide_eq_true hb
    omega
theorem MayF.at {t : Tre} (h : MayF t) {i : Nat} (hi : i < 12) : mayN (t.getD i default) = true := h.may _ (getD_mem (by rw [h.len]; exact hi))
theorem MayF.ent {t : Tre} (h : MayF t) {i : Nat} {e : Ent} (he : e ∈ entsT t i) : i < 12 ∧ kindT t i = 2 ∧ 1 ≤ e.node ∧ e.node < 12 ∧ mayB e.name = true ∧ kindT t e.node.toNat ≠ 0 := by
  have hi : i < 12 := by
    apply Classical.byContradiction
    intro hi
    unfold entsT at he
    rw [List.getD_eq_getElem?_getD, List.getElem?_eq_none (by rw [h.len]; omega)] at he
    cases he
  have hm := h.at hi
  have hn := mayL_node (mayN_ents hm) he
  refine ⟨hi, ?_, hn.1, hn.2.1, hn.2.2, fun hk => ?_⟩
  · rcases kind_of hm with hk | hk | hk
    · exfalso
      unfold mayN at hm
      rw [if_pos hk] at hm
      simp only [Bool.and_eq_true, decide_eq_true_eq] at hm
      have : (t.getD i default).ents = [] := List.eq_nil_of_length_eq_zero hm.2
      unfold entsT at he
      rw [this] at he; cases he
    · exfalso
      unfold mayN at hm
      rw [if_neg (by omega), if_pos hk] at hm
      unfold fileB at hm
      simp only [Bool.and_eq_true, decide_eq_true_eq] at hm
      have : (t.getD i default).ents = [] := List.eq_nil_of_length_eq_zero hm.1.2
      unfold entsT at he
      rw [this] at he; cases he
    · exact hk
  · have h0 := h.none e.node.toNat (by omega) hk
    have h1 := named_one (t := t) (x := ((e.node.toNat : Nat) : Int)) (i := i) he (by omega)
    omega
theorem MayF.reach_lt {t : Tre} (h : MayF t) {a b : Nat} (ha : a < 12) (hr : Reach t a b) : b < 12 := by
  cases hr with
  | refl => exact ha
  | step _ hx => have := h.ent hx; omega
/-- The root is named by nobody. -/
theorem MayF.zero {t : Tre} (h : MayF t) {i : Nat} {e : Ent} (he : e ∈ entsT t i) : e.node.toNat ≠ 0 := by
  have := h.ent he; omega
/-- A file leads nowhere. -/
theorem reach_leaf {t : Tre} {a b : Nat} (h : entsT t a = []) (hr : Reach t a b) : b = a := by
  induction hr with
  | refl => rfl
  | step _ hx ih =>
    subst ih
    unfold entsT at h
    rw [h] at hx; cases hx
theorem reach_first {t : Tre} {a b : Nat} (hr : Reach t a b) : a = b ∨ ∃ e ∈ entsT t a, Reach t e.node.toNat b := by
  induction hr with
  | refl => exact .inl rfl
  | step h hx ih =>
    right
    rcases ih with rfl | ⟨e, he, hr⟩
    · exact ⟨_, hx, .refl⟩
    · exact ⟨e, he, .step hr hx⟩
/-- One comes back nowhere. -/
theorem MayF.nocycle {t : Tre} (h : MayF t) {a : Nat} {e0 : Ent} (he0 : e0 ∈ entsT t a) (hba : Reach t e0.node.toNat a) : False := by
  have ha := (h.ent he0).1
  let C : Nat → Prop := fun x => Reach t a x ∧ Reach t x a
  have pred : ∀ x, C x → ∃ p e, C p ∧ e ∈ entsT t p ∧ e.node.toNat = x := by
    rintro x ⟨h1, h2⟩
    by_cases hx : x = a
    · subst hx
      rcases Nat.decEq e0.node.toNat x with hne | heq
      · cases hba with
        | refl => exact absurd rfl hne
        | step hp hx => exact ⟨_, _, ⟨(Reach.step .refl he0).trans hp, .step .refl hx⟩, hx, rfl⟩
      · exact ⟨x, e0, ⟨.refl, .refl⟩, he0, heq⟩
    · cases h1 with
      | refl => exact absurd rfl hx
      | step hp he => exact ⟨_, _, ⟨hp, (Reach.step .refl he).trans h2⟩, he, rfl⟩
  have dirC : ∀ x, C x → kindT t x = 2 := by
    rintro x ⟨h1, h2⟩
    by_cases hx : x = a
    · subst hx
      exact (h.ent he0).2.1
    · rcases reach_first h2 with e | ⟨e, he, _⟩
      · exact absurd e hx
      · exact (h.ent he).2.1
  have no : ∀ x, Reach t 0 x → ¬ C x := by
    intro x hr
    induction hr with
    | refl =>
      intro hc
      obtain ⟨p, e, _, he, h0⟩ := pred _ hc
      exact h.zero he h0
    | @step i e hi he ih =>
      intro hc
      obtain ⟨p, e', hp, he', hx⟩ := pred _ hc
      have hq := h.ent he
      have hq' := h.ent he'
      have hd := (h.dir e.node.toNat (by omega) (dirC _ hc)).2
      have hn1 : namedT t ((e.node.toNat : Nat) : Int) ≤ 1 := by
        rcases hd with h0 | h1
        · exact absurd h0 (h.zero he)
        · omega
      have := named_same hn1 he he' (by omega) (by omega)
      subst this
      exact ih hp
  have hCa : C a := ⟨.refl, .refl⟩
  exact no a (h.dir a ha (dirC a hCa)).1 hCa
/-- No directory is inside what is in it. -/
theorem MayF.anti {t : Tre} (h : MayF t) {a b : Nat} (hab : Reach t a b) (hba : Reach t b a) : a = b := by
  rcases reach_first hab with e | ⟨e, he, hr⟩
  · exact e
  · exact (h.nocycle he (hr.trans hba)).elim
theorem MayF.met {t : Tre} (h : MayF t) {c : Nat} (hc : c < 12) : metB t 0 c = (decide (0 < namedT t c) || decide (c = 0)) := by
  rw [Bool.eq_iff_iff, metB_iff, Bool.or_eq_true, decide_eq_true_eq, decide_eq_true_eq]
  constructor
  · intro hr
    cases hr with
    | refl => exact .inr rfl
    | step _ hx => have := h.ent hx; exact .inl (named_one hx (by omega))
  · rintro (hn | rfl)
    · obtain ⟨e, he, hd⟩ := List.countP_pos_iff.1 hn
      obtain ⟨n, hn, hen⟩ := List.mem_flatMap.1 he
      obtain ⟨j, hj, rfl⟩ := List.getElem_of_mem hn
      have hx : e ∈ entsT t j := by unfold entsT; rw [getD_at hj]; exact hen
      have hq := h.ent hx
      have := Reach.step (h.dir j hq.1 hq.2.1).1 hx
      rwa [of_decide_eq_true hd, Int.toNat_natCast] at this
    · exact .refl
theorem insideT_iff {t : Tre} (hM : mayT t = true) {a b : Nat} (ha : a < 12) (hb : b < 12) : insideT t a b = (decide (kindT t a = 2) && metB t a b) := by
  unfold insideT
  rw [hM, decide_eq_true (show (0 : Int) ≤ a by omega), decide_eq_true (show (a : Int) < 12 by omega), decide_eq_true (show (0 : Int) ≤ b by omega), decide_eq_true (show (b : Int) < 12 by omega)]
  simp
end Go.Proofs.YtpalkdmngckcoaaDoor

/- DirInside. -/
namespace Go.Proofs.YtpalkdmngckcoaaDoor
open Go
theorem mod12 (a : Int) : ∃ n : Nat, Int.tmod (IntKind.u64.wrap a) 12 = n ∧ n < 12 := by
  have hw := wrap_u64_nn a
  have m0 := Int.tmod_nonneg (12 : Int) hw
  have m1 := Int.tmod_lt_of_pos (IntKind.u64.wrap a) (show (0 : Int) < 12 by decide)
  exact ⟨(Int.tmod (IntKind.u64.wrap a) 12).toNat, by omega, by omega⟩
theorem dirInside_ok {s : Sl} {t : Tre} {a b c : Int} {V : View} (h : SlR V s t) (hg : Glo V) : CallV Tryd.prog 4 ⟨[treV s, .int .i64 a, .int .i64 b, .int .i64 c]⟩ V fun r V' => r = .bool true ∧ V.Le V' := by
  refine f4_x ?_
  unfold f4_n
  obtain ⟨a, ha, ha12⟩ := mod12 a
  obtain ⟨b, hb, hb12⟩ := mod12 b
  obtain ⟨c, hc, hc12⟩ := mod12 c
  rw [ha, hb, hc]
  refine fun _ => joinP_cut (fun q V' => (q.1 = false → mayT t = true) ∧ V.Le V') (guard_ok h fun V' q h1 h2 hV => ⟨fun hq => (h1 hq).1, hV⟩) ?_
  rintro ⟨q, ⟨⟩⟩ V1 ⟨h1, hV1⟩
  dsimp only [unc]
  refine br_intro (fun _ => awake15J hV1 (hg.mono hV1) fun V' hV => ⟨rfl, hV⟩) (fun hq => ⟨by decide, inI64 (by omega) (by omega), by decide, inI64 (by omega) (by omega), by decide, inI64 (by omega) (by omega), ?_⟩)
  have hM := h1 hq
  have hF := mayF hM
  have h12 := hF.len
  have hn := h.n
  have ins : ∀ {V' : View} (x y : Nat), V.Le V' → x < 12 → y < 12 → CallV Tryd.prog 14 ⟨[treV s, .int .i64 x, .int .i64 y]⟩ V' fun r V'' => r = .bool (decide (kindT t x = 2) && metB t x y) ∧ V'.Le V'' := fun x y hV hx hy => by
    have := inside_ok (a := (x : Int)) (b := (y : Int)) (h.mono hV)
    rwa [insideT_iff hM hx hy] at this
  refine joinP_cut (fun q V' => q.1 = false ∧ V.Le V') ((ins a b hV1 ha12 hb12).mono ?_) ?_
  · rintro r V2 ⟨rfl, hV2⟩
    have q2 := hV1.trans hV2
    refine ⟨_, rfl, br_intro (fun hab => (ins b c q2 hb12 hc12).mono ?_) (fun _ => ⟨rfl, q2⟩)⟩
    rintro r V3 ⟨rfl, hV3⟩
    have q3 := q2.trans hV3
    refine ⟨_, rfl, br_intro (fun hbc => (ins a c q3 ha12 hc12).mono ?_) (fun _ => ⟨rfl, q3⟩)⟩
    rintro r V4 ⟨rfl, hV4⟩
    refine ⟨_, rfl, ?_, q3.trans hV4⟩
    simp only [Bool.and_eq_true, decide_eq_true_eq, metB_iff] at hab hbc
    have := metB_iff.2 (hab.2.trans hbc.2)
    simp [hab.1, this]
  rintro ⟨q, ⟨⟩⟩ V2 ⟨hq2, hV2⟩
  simp only at hq2
  subst hq2
  dsimp only [unc]
  refine br_intro (fun h => absurd h (by decide)) (fun _ => ?_)
  refine joinP_cut (fun q V' => q.1 = false ∧ V.Le V') (br_intro (fun hne => (ins a b hV2 ha12 hb12).mono ?_) (fun _ => ⟨rfl, hV2⟩)) ?_
  · rintro r V3 ⟨rfl, hV3⟩
    have q3 := hV2.trans hV3
    refine ⟨_, rfl, br_intro (fun hab => (ins b a q3 hb12 ha12).mono ?_) (fun _ => ⟨rfl, q3⟩)⟩
    rintro r V4 ⟨rfl, hV4⟩
    refine ⟨_, rfl, ?_, q3.trans hV4⟩
    show (decide (kindT t b = 2) && metB t b a) = false
    cases hba : (decide (kindT t b = 2) && metB t b a)
    · rfl
    · exfalso
      simp only [Bool.and_eq_true, decide_eq_true_eq, metB_iff] at hab hba
      have := hF.anti hab.2 hba.2
      exact (of_decide_eq_false (not_t hne)) (by omega)
  rintro ⟨q, ⟨⟩⟩ V3 ⟨hq3, hV3⟩
  simp only at hq3
  subst hq3
  dsimp only [unc]
  refine br_intro (fun h => absurd h (by decide)) (fun _ => (dirNames_ok (h.mono hV3) h12 (fun n hn => mayL_len (mayN_ents (hF.may n hn)))).mono ?_)
  rintro r V4 ⟨rfl, rfl⟩
  refine ⟨_, rfl, joinP_cut (fun q V' => q.1 = true ∧ V.Le V') ((ins 0 c hV3 (by omega) hc12).mono ?_) ?_⟩
  · rintro r V5 ⟨rfl, hV5⟩
    have q5 := hV3.trans hV5
    obtain ⟨ad, sq, en, had, hc5, hN⟩ := (h.mono q5).nodN (i := a) (by omega)
    refine ⟨_, rfl, br_intro (fun _ => ⟨by omega, by omega, ad, had, _, cellsAt_nth hc5 0 rfl, br_intro (fun _ => awake15J q5 (hg.mono q5) fun V' hV => ⟨rfl, hV⟩) (fun hk => (ins a b q5 ha12 hb12).mono ?_)⟩) (fun hf => ?_)⟩
    · rintro r V6 ⟨rfl, hV6⟩
      have hk : ¬ kindT t a = 2 := of_decide_eq_false hk
      rw [decide_eq_false hk]
      exact ⟨_, rfl, br_intro (fun _ => awake15J (q5.trans hV6) (hg.mono (q5.trans hV6)) fun V' hV => ⟨rfl, hV⟩) (fun h => by simp at h)⟩
    · exfalso
      rw [hF.met hc12, decide_eq_true hF.top] at hf
      have e1 : decide ((0 : Int) < ((namedT t (c : Int) : Nat) : Int)) = decide (0 < namedT t (c : Int)) := decide_eq_decide.2 (by omega)
      have e2 : decide ((c : Int) = 0) = decide (c = 0) := decide_eq_decide.2 (by omega)
      change ((true && (decide (0 < namedT t (c : Int)) || decide (c = 0))) == bif decide ((0 : Int) < ((namedT t (c : Int) : Nat) : Int)) then true else decide ((c : Int) = 0)) = false at hf
      rw [e1, e2] at hf
      revert hf
      generalize decide (0 < namedT t (c : Int)) = p1
      generalize decide (c = 0) = p2
      cases p1 <;> cases p2 <;> decide
  · rintro ⟨q, ⟨⟩⟩ V5 ⟨hq5, hV⟩
    simp only at hq5
    subst hq5
    exact ⟨rfl, hV⟩
end Go.Proofs.YtpalkdmngckcoaaDoor

/- Elements of rows of one's own that are set; rows that grow by an element. -/
namespace Go.Proofs.YtpalkdmngckcoaaDoor
open Go
theorem repL.set {α : Type} [Rep α] {W : View} {d : α} {ds : List Value} (hd : Rep.rep W ds d) : ∀ {cs : List Value} {l : List α} {i : Nat}, repL W cs l → i < l.length → repL W (putL cs (i * Rep.sz α) ds) (l.set i d)
  | _, [], i, _, hi => absurd hi (by simp)
  | _, x :: l, 0, ⟨vs, us, e, h1, h2⟩, _ => by
    have hv := Rep.len h1; have hdl := Rep.len hd
    refine ⟨ds, us, ?_, hd, h2⟩
    rw [Nat.zero_mul, putL_eq _ _ _ (by rw [e, List.length_append]; omega), e, List.take_zero, List.nil_append, Nat.zero_add, List.drop_append_of_le_length (by omega), List.drop_of_length_le (by omega), List.nil_append]
  | _, x :: l, i + 1, ⟨vs, us, e, h1, h2⟩, hi => by
    have hv := Rep.len h1; have hdl := Rep.len hd; have hul := h2.len
    have hi' : i < l.length := by simpa using hi
    have hle := Nat.mul_le_mul_right (Rep.sz α) (show i + 1 ≤ l.length from hi')
    rw [Nat.add_mul] at hle
    refine ⟨vs, putL us (i * Rep.sz α) ds, ?_, h1, repL.set hd h2 hi'⟩
    rw [putL_eq _ _ _ (by rw [e, List.length_append, Nat.add_mul]; omega), putL_eq _ _ _ (by omega), e, Nat.add_mul]
    rw [show i * Rep.sz α + 1 * Rep.sz α = vs.length + i * Rep.sz α by omega, List.take_append, List.drop_append]
    rw [List.take_of_length_le (show vs.length ≤ vs.length + i * Rep.sz α by omega), List.drop_of_length_le (show vs.length ≤ vs.length + i * Rep.sz α + ds.length by omega)]
    rw [show vs.length + i * Rep.sz α - vs.length = i * Rep.sz α by omega, show vs.length + i * Rep.sz α + ds.length - vs.length = i * Rep.sz α + ds.length by omega]
    simp [List.append_assoc]
theorem putL_take : ∀ (vs cs : List Value) (off m : Nat), (putL cs off vs).take m = putL (cs.take m) off vs
  | [], _, _, _ => rfl
  | v :: vs, cs, off, m => by rw [putL, putL, putL_take vs, List.take_set]
/-- Cells of a row of one's own may be set; all else is as it was. -/
theorem Buf.set {V : View} {x : Sl} {e : TypeId} {sz : Nat} {cs vs : List Value} (h : Buf V x e sz cs) {off : Nat} (hk : off + vs.length ≤ x.n * sz) (hv : 0 < vs.length) {ad : Addr} (ha : x.a = some ad) :
    canSet V (ad.add off) vs.length ∧ Buf (V.sets (ad.add off) vs) x e sz (putL cs off vs) ∧ (V.minus x).Le ((V.sets (ad.add off) vs).minus x) := by
  rcases h.own with ⟨h1, _⟩ | ⟨r, all, h1, h2, h3, h4⟩
  · rw [h1] at ha; cases ha
  · rw [h1] at ha; cases ha
    have hle := Nat.mul_le_mul_right sz h.le
    have e0 : (⟨r, 0, none⟩ : Addr).add off = ⟨r, off, none⟩ := by rw [addr0_add]; simp
    have hlen := h.len
    rw [e0, sets_see h2]
    refine ⟨canSet_of h2 (by omega), ⟨?_, h.le, h.lim, .inr ⟨r, _, h1, View.see_put_same _ _ _, ?_, ?_⟩⟩, ?_⟩
    · rw [putL_eq _ _ _ (by omega)]; simp; omega
    · rw [putL_eq _ _ _ (by omega)]; simp; omega
    · rw [putL_take, h4]
    · unfold View.minus; rw [h1]; exact hide_le_put_hide r _
/-- Element i of a row of one's own, set. -/
theorem Buf.setE {α : Type} [Rep α] {V : View} {x : Sl} {e : TypeId} {cs vs : List Value} {l : List α} {d : α} (h : Buf V x e (Rep.sz α) cs) (hr : repL (V.minus x) cs l) (hd : Rep.rep (V.minus x) vs d) {i : Nat} (hi : i < l.length) :
    ∃ ad, x.a = some ad ∧ canSet V (ad.add (i * Rep.sz α)) vs.length ∧ Buf (V.sets (ad.add (i * Rep.sz α)) vs) x e (Rep.sz α) (putL cs (i * Rep.sz α) vs) ∧ repL ((V.sets (ad.add (i * Rep.sz α)) vs).minus x) (putL cs (i * Rep.sz α) vs) (l.set i d) ∧ (V.minus x).Le ((V.sets (ad.add (i * Rep.sz α)) vs).minus x) := by
  have hn : x.n = l.length := Nat.eq_of_mul_eq_mul_right (Rep.pos (α := α)) (h.len.symm.trans hr.len)
  have hv := Rep.len hd
  have hle := Nat.mul_le_mul_right (Rep.sz α) (show i + 1 ≤ x.n by omega)
  rw [Nat.add_mul] at hle
  have hp := Rep.pos (α := α)
  rcases h.own with ⟨h1, h2⟩ | ⟨r, all, h1, _⟩
  · have := h.le; omega
  · obtain ⟨a, b, c⟩ := h.set (off := i * Rep.sz α) (vs := vs) (by omega) (by omega) h1
    exact ⟨_, h1, a, b, (hr.mono c).set (Rep.mono c hd) hi, c⟩
theorem putL_mid {cs vs : List Value} {off j : Nat} {v : Value} (h : ∀ j v, vs[j]? = some v → cs[off + j]? = some v) (hj : j < vs.length) (hl : off + vs.length ≤ cs.length) : putL cs off (vs.set j v) = putL cs (off + j) [v] := by
  rw [putL_eq _ _ _ (by simpa using hl)]
  show _ = cs.set (off + j) v
  apply List.ext_getElem?
  intro k
  rw [List.length_set]
  by_cases h1 : k < off
  · rw [List.append_assoc, List.getElem?_append_left (by simp; omega), List.getElem?_take, if_pos h1, List.getElem?_set_ne (by omega)]
  · by_cases h2 : k < off + vs.length
    · rw [List.append_assoc, List.getElem?_append_right (by simp; omega), List.getElem?_append_left (by simp; omega), List.length_take, Nat.min_eq_left (by omega)]
      by_cases h3 : k = off + j
      · subst h3
        rw [show off + j - off = j by omega, List.getElem?_set_self hj, List.getElem?_set_self (by omega)]
      · rw [List.getElem?_set_ne (by omega), List.getElem?_set_ne (by omega)]
        have h4 : k - off < vs.length := by omega
        have := h (k - off) _ (List.getElem?_eq_getElem h4)
        rw [show off + (k - off) = k by omega] at this
        rw [this, List.getElem?_eq_getElem h4]
    · rw [List.getElem?_append_right (by simp; omega), List.getElem?_drop, List.getElem?_set_ne (by omega)]
      congr 1
      simp; omega
/-- A cell of element i of a row of one's own, set. -/
theorem Buf.setC {α : Type} [Rep α] {V : View} {x : Sl} {e : TypeId} {cs : List Value} {l : List α} (h : Buf V x e (Rep.sz α) cs) (hr : repL (V.minus x) cs l) {i : Nat} (hi : i < l.length) :
    ∃ ad vs, x.a = some ad ∧ cellsAt V (ad.add (i * Rep.sz α)) vs ∧ Rep.rep (V.minus x) vs l[i] ∧ ∀ j v d, j < Rep.sz α → Rep.rep (V.minus x) (vs.set j v) d →
      canSet V ((ad.add (i * Rep.sz α)).add j) 1 ∧ Buf (V.sets ((ad.add (i * Rep.sz α)).add j) [v]) x e (Rep.sz α) (putL cs (i * Rep.sz α + j) [v]) ∧ repL ((V.sets ((ad.add (i * Rep.sz α)).add j) [v]).minus x) (putL cs (i * Rep.sz α + j) [v]) (l.set i d) ∧ (V.minus x).Le ((V.sets ((ad.add (i * Rep.sz α)).add j) [v]).minus x) := by
  have hn : x.n = l.length := Nat.eq_of_mul_eq_mul_right (Rep.pos (α := α)) (h.len.symm.trans hr.len)
  obtain ⟨vs, hv, hg⟩ := hr.get i hi
  have hvl := Rep.len hv
  have hle := Nat.mul_le_mul_right (Rep.sz α) (show i + 1 ≤ x.n by omega)
  rw [Nat.add_mul] at hle
  have hcl := h.len
  rcases h.own with ⟨h1, h2⟩ | ⟨r, all, h1, h2, h3, h4⟩
  · have := h.le; omega
  · refine ⟨_, vs, h1, ?_, hv, fun j v d hj hd => ?_⟩
    · rw [addr0_add]
      refine cellsAt_of_see h2 fun j v hj => ?_
      have := hg j v hj
      rw [← h4, List.getElem?_take] at this
      split at this
      · simpa using this
      · cases this
    · rw [Addr.add_add]
      obtain ⟨a, b, c⟩ := h.set (off := i * Rep.sz α + j) (vs := [v]) (by simp; omega) (by simp) h1
      refine ⟨a, b, ?_, c⟩
      rw [← putL_mid hg (by omega) (by omega)]
      exact (hr.mono c).set (Rep.mono c hd) hi
/-- An element in a new block, appended to a row of one's own. -/
theorem app0 {α : Type} [Rep α] {V V0 : View} {r : Nat} {x : Sl} {e : TypeId} {bytes : Nat} {zero : List Value} {cs vs : List Value} {l : List α} {d : α} {C : Sl → View → Prop} {ob : Obj} {te : TypeId}
    (hz : zero.length = Rep.sz α) (hb : Buf V x e (Rep.sz α) cs) (hr : repL (V.minus x) cs l) (hd : Rep.rep (V.minus x) vs d) (hle : V0.Le (V.minus x)) (hnew : V.size ≤ r) (hob : ob = .cells ⟨vs⟩ te (0, 0))
    (hm : (x.n + 1) * bytes ≤ 140737488355328) (hm2 : x.n + 1 ≤ 140737488355328)
    (hC : ∀ s V' cs', Buf V' s e (Rep.sz α) cs' → repL (V'.minus s) cs' (l ++ [d]) → V0.Le (V'.minus s) → C s V') :
    apV (V.put r ob) e (Rep.sz α) bytes zero x (.slice (some ⟨r, 0, none⟩) 1 1) C := by
  subst hob
  have hfr : V.see r = none := View.see_none_of_ge hnew
  have hvl : vs.length = Rep.sz α := Rep.len hd
  refine apV_buf hz (hb.put hfr) (src := vs) (m := 1) ⟨rfl, rowAt_new (View.see_put_same _ _ _) (by rw [Nat.one_mul]; exact hvl)⟩ (by rw [Nat.one_mul]; exact hvl) (Rep.one hd) hm hm2 fun s V' hb' _ hle' => ?_
  have h1 : (V.minus x).Le (V'.minus s) := (put_minus_le hfr).trans hle'
  exact hC s V' _ hb' ((hr.mono h1).snoc (Rep.mono h1 hd)) (hle.trans h1)
/-- An element appended to a row of one's own that stands beside another one. -/
theorem app0b {α : Type} [Rep α] {V V0 : View} {x y : Sl} {e e' : TypeId} {bytes sz' : Nat} {zero : List Value} {cs vs ds : List Value} {l : List α} {d : α} {C : Sl → View → Prop} {r : Nat}
    (hz : zero.length = Rep.sz α) (hb : Buf V x e (Rep.sz α) cs) (hy : Buf (V.minus x) y e' sz' ds) (hr : repL V0 cs l) (hd : Rep.rep V0 vs d) (hle : V0.Le ((V.minus x).minus y)) (hrow : rowAt V (some ⟨r, 0, none⟩) (1 * Rep.sz α) vs)
    (hm : (l.length + 1) * bytes ≤ 140737488355328) (hm2 : l.length + 1 ≤ 140737488355328)
    (hC : ∀ s V', Buf V' s e (Rep.sz α) (cs ++ vs) → Buf (V'.minus s) y e' sz' ds → repL V0 (cs ++ vs) (l ++ [d]) → V0.Le ((V'.minus s).minus y) → C s V') :
    apV V e (Rep.sz α) bytes zero x (.slice (some ⟨r, 0, none⟩) 1 1) C := by
  have hvl : vs.length = Rep.sz α := Rep.len hd
  have hn : x.n = l.length := Nat.eq_of_mul_eq_mul_right (Rep.pos (α := α)) (hb.len.symm.trans hr.len)
  refine apV_buf hz hb (src := vs) (m := 1) ⟨rfl, hrow⟩ (by rw [Nat.one_mul]; exact hvl) (Rep.one hd) (by rw [hn]; exact hm) (by rw [hn]; exact hm2) fun s V' hb' _ hle' => ?_
  exact hC s V' hb' (hy.mono hle') (hr.snoc hd) (hle.trans (minus_mono hle' y))
/-- A row of data copied behind a row of one's own. -/
theorem appRow {α : Type} [Rep α] {V V0 : View} {x y : Sl} {e : TypeId} {bytes : Nat} {zero : List Value} {cs : List Value} {l m : List α} {C : Sl → View → Prop}
    (hz : zero.length = Rep.sz α) (hb : Buf V x e (Rep.sz α) cs) (hr : repL (V.minus x) cs l) (hy : SlR (V.minus x) y m) (hle : V0.Le (V.minus x))
    (hm : (l.length + m.length) * bytes ≤ 140737488355328) (hm2 : l.length + m.length ≤ 140737488355328)
    (hC : ∀ s V' cs', Buf V' s e (Rep.sz α) cs' → repL (V'.minus s) cs' (l ++ m) → V0.Le (V'.minus s) → C s V') :
    apV V e (Rep.sz α) bytes zero x (.slice y.a y.n y.c) C := by
  obtain ⟨cy, hrow, hcy⟩ := hy.row
  have hyn := hy.n
  have hn : x.n = l.length := Nat.eq_of_mul_eq_mul_right (Rep.pos (α := α)) (hb.len.symm.trans hr.len)
  have hrow' : rowAt V y.a (y.n * Rep.sz α) cy := by
    cases ha : y.a with
    | none => rw [ha] at hrow; exact hrow
    | some a => rw [ha] at hrow; exact ⟨hrow.1, cellsAt_mono (View.minus_le _ _) hrow.2⟩
  refine apV_buf hz hb (src := cy) (m := y.n) ⟨rfl, hrow'⟩ (by rw [hcy.len, hyn]) hcy.one (by rw [hn, hyn]; exact hm) (by rw [hn, hyn]; exact hm2) fun s V' hb' _ hle' => ?_
  exact hC s V' _ hb' ((hr.mono hle').append (hcy.mono hle')) (hle.trans hle')
end Go.Proofs.YtpalkdmngckcoaaDoor

/- Contracts of copies of trees, and of trees that are cleared. -/
namespace Go.Proofs.YtpalkdmngckcoaaDoor
open Go
theorem cloneI_ok {s : Sl} {l : List Int} {V : View} (h : SlR V s l) (hl : l.length ≤ 1000) : CallV Tryd.prog 62 ⟨[.slice s.a s.n s.c]⟩ V fun r V' => ∃ x : Sl, r = .slice x.a x.n x.c ∧ SlR V' x l ∧ V.Le V' := by
  refine f62_x ?_
  unfold f62_n
  refine br_intro (fun hnil => ?_) (fun _ r hr => ?_)
  · have ha : s.a = none := Option.isNone_iff_eq_none.1 hnil
    have hl0 : l = [] := by
      cases l with
      | nil => rfl
      | cons b l => obtain ⟨ad, vs, h1, _⟩ := h.get 0 (by simp); rw [ha] at h1; cases h1
    subst hl0
    exact ⟨⟨none, 0, 0⟩, rfl, SlR.nil _ _ _, View.Le.refl V⟩
  · have hfr : V.see r = none := View.see_none_of_ge hr
    refine appRow (α := Int) (V0 := V) (l := []) (m := l) rfl (cs := []) ⟨rfl, Nat.le_refl _, Nat.zero_le _, .inr ⟨r, [], rfl, View.see_put_same _ _ _, rfl, rfl⟩⟩ rfl (h.mono ?_) ?_ (by simp; omega) (by simp; omega) ?_
    · exact put_le_hide hfr (View.Le.refl _)
    · exact put_le_hide hfr (View.Le.refl _)
    · intro z V' cs' hb hr' hle
      exact ⟨z, rfl, hb.slR hr' (View.minus_le _ _), hle.trans (View.minus_le _ _)⟩
theorem cloneE_ok {s : Sl} {l : List Ent} {V : View} (h : SlR V s l) (hl : l.length ≤ 1000) : CallV Tryd.prog 63 ⟨[.slice s.a s.n s.c]⟩ V fun r V' => ∃ x : Sl, r = .slice x.a x.n x.c ∧ SlR V' x l ∧ V.Le V' := by
  refine f63_x ?_
  unfold f63_n
  refine br_intro (fun hnil => ?_) (fun _ r hr => ?_)
  · have ha : s.a = none := Option.isNone_iff_eq_none.1 hnil
    have hl0 : l = [] := by
      cases l with
      | nil => rfl
      | cons b l => obtain ⟨ad, vs, h1, _⟩ := h.get 0 (by simp); rw [ha] at h1; cases h1
    subst hl0
    exact ⟨⟨none, 0, 0⟩, rfl, SlR.nil _ _ _, View.Le.refl V⟩
  · have hfr : V.see r = none := View.see_none_of_ge hr
    refine appRow (α := Ent) (V0 := V) (l := []) (m := l) rfl (cs := []) ⟨rfl, Nat.le_refl _, Nat.zero_le _, .inr ⟨r, [], rfl, View.see_put_same _ _ _, rfl, rfl⟩⟩ rfl (h.mono ?_) ?_ (by simp; omega) (by simp; omega) ?_
    · exact put_le_hide hfr (View.Le.refl _)
    · exact put_le_hide hfr (View.Le.refl _)
    · intro z V' cs' hb hr' hle
      exact ⟨z, rfl, hb.slR hr' (View.minus_le _ _), hle.trans (View.minus_le _ _)⟩
def LightN (n : Nod) : Prop := n.seqs.length ≤ 1000 ∧ n.ents.length ≤ 1000
theorem mayN_light {n : Nod} (h : mayN n = true) : LightN n := by
  have a := mayN_seqs h
  have b := mayL_len (mayN_ents h)
  exact ⟨by omega, by omega⟩
theorem copyN_ok {n : Nod} {s e : Sl} {V : View} (h : NodR V s e n) (hl : LightN n) : CallV Tryd.prog 41 ⟨[nodV n s e]⟩ V fun r V' => ∃ s' e' : Sl, r = nodV n s' e' ∧ NodR V' s' e' n ∧ V.Le V' := by
  refine f41_x ?_
  unfold f41_n
  refine fun _ _ => ⟨trivial, V, View.Le.refl _, (cloneI_ok h.seqs hl.1).mono ?_⟩
  rintro r V1 ⟨x, rfl, hx, hV1⟩
  refine ⟨x, rfl, hV1, (cloneE_ok (h.ents.mono hV1) hl.2).mono ?_⟩
  rintro r V2 ⟨y, rfl, hy, hV2⟩
  exact ⟨y, rfl, x, y, rfl, ⟨h.kind, h.links, h.size, hx.mono hV2, hy⟩, hV1.trans hV2⟩
theorem refCopyN_ok {n : Nod} {s e : Sl} {V : View} (h : NodR V s e n) (hl : LightN n) : CallV Tryd.prog 40 ⟨[nodV n s e]⟩ V fun r V' => ∃ s' e' : Sl, r = nodV n s' e' ∧ NodR V' s' e' n ∧ V.Le V' := by
  refine f40_x ?_
  unfold f40_n
  have l1 := hl.1
  have l2 := hl.2
  refine fun _ _ => ⟨trivial, V, View.Le.refl _, ?_⟩
  refine appRow (α := Int) (V0 := V) (l := []) (m := n.seqs) rfl (cs := []) (Buf.nil _ _ _) rfl h.seqs (View.Le.refl _) (by simp; omega) (by simp; omega) ?_
  intro x V1 cs hb hr hV1
  have hV1' := hV1.trans (View.minus_le _ _)
  refine ⟨hV1', ?_⟩
  refine appRow (α := Ent) (V0 := V1) (l := []) (m := n.ents) rfl (cs := []) (Buf.nil _ _ _) rfl (h.ents.mono hV1') (View.Le.refl _) (by simp; omega) (by simp; omega) ?_
  intro y V2 cs2 hb2 hr2 hV2
  have hV2' := hV2.trans (View.minus_le _ _)
  exact ⟨x, y, rfl, ⟨h.kind, h.links, h.size, (hb.slR hr (View.minus_le _ _)).mono hV2', hb2.slR hr2 (View.minus_le _ _)⟩, hV1'.trans hV2'⟩
/-- A tree of one's own: the row of its nodes is one's own. -/
def OwnT (V0 V : View) (x : Sl) (t : Tre) : Prop := ∃ cs, Buf V x 31 5 cs ∧ repL (V.minus x) cs t ∧ V0.Le (V.minus x)
theorem OwnT.slR {V0 V : View} {x : Sl} {t : Tre} (h : OwnT V0 V x t) : SlR V x t := by
  obtain ⟨cs, hb, hr, _⟩ := h
  exact hb.slR hr (View.minus_le _ _)
theorem OwnT.le {V0 V : View} {x : Sl} {t : Tre} (h : OwnT V0 V x t) : V0.Le V := by
  obtain ⟨cs, hb, hr, hle⟩ := h
  exact hle.trans (View.minus_le _ _)
theorem OwnT.mono {V0 V V' : View} {x : Sl} {t : Tre} (h : OwnT V0 V x t) (hV : V.Le V') : OwnT V0 V' x t := by
  obtain ⟨cs, hb, hr, hle⟩ := h
  have := minus_mono hV x
  exact ⟨cs, hb.mono hV, hr.mono this, hle.trans this⟩
theorem OwnT.from {U V0 V : View} {x : Sl} {t : Tre} (h : OwnT V0 V x t) (hV : U.Le V0) : OwnT U V x t := by
  obtain ⟨cs, hb, hr, hle⟩ := h
  exact ⟨cs, hb, hr, hV.trans hle⟩
/-- A node is set. -/
theorem OwnT.set {V0 V : View} {x : Sl} {t : Tre} (h : OwnT V0 V x t) {i : Nat} (hi : i < t.length) {n : Nod} {vs : List Value} (hn : ∀ cs, Buf V x 31 5 cs → Rep.rep (V.minus x) vs n) :
    ∃ ad, x.a = some ad ∧ canSet V (ad.add (i * 5)) 5 ∧ OwnT V0 (V.sets (ad.add (i * 5)) vs) x (t.set i n) := by
  obtain ⟨cs, hb, hr, hle⟩ := h
  have hd := hn cs hb
  have h5 : vs.length = 5 := Rep.len hd
  obtain ⟨ad, ha, h1, h2, h3, h4⟩ := hb.setE (α := Nod) hr hd hi
  rw [h5] at h1
  exact ⟨ad, ha, h1, _, h2, h3, hle.trans h4⟩
/-- A cell of a node is set. -/
theorem OwnT.setC {V0 V : View} {x : Sl} {t : Tre} (h : OwnT V0 V x t) {i : Nat} (hi : i < t.length) :
    ∃ ad sq en, x.a = some ad ∧ cellsAt V (ad.add (i * 5)) [.int .i64 (t.getD i default).kind, .int .i64 (t.getD i default).links, .int .i64 (t.getD i default).size, .slice sq.a sq.n sq.c, .slice en.a en.n en.c] ∧ NodR (V.minus x) sq en (t.getD i default) ∧
      (∀ k n, inI .i64 k → n = { t.getD i default with links := k } → canSet V ((ad.add (i * 5)).add 1) 1 ∧ OwnT V0 (V.sets ((ad.add (i * 5)).add 1) [.int .i64 k]) x (t.set i n)) ∧
      (∀ k n, inI .i64 k → n = { t.getD i default with size := k } → canSet V ((ad.add (i * 5)).add 2) 1 ∧ OwnT V0 (V.sets ((ad.add (i * 5)).add 2) [.int .i64 k]) x (t.set i n)) ∧
      (∀ q l n, SlR (V.minus x) q l → n = { t.getD i default with seqs := l } → canSet V ((ad.add (i * 5)).add 3) 1 ∧ OwnT V0 (V.sets ((ad.add (i * 5)).add 3) [.slice q.a q.n q.c]) x (t.set i n)) ∧
      (∀ q l n, SlR (V.minus x) q l → n = { t.getD i default with ents := l } → canSet V ((ad.add (i * 5)).add 4) 1 ∧ OwnT V0 (V.sets ((ad.add (i * 5)).add 4) [.slice q.a q.n q.c]) x (t.set i n)) := by
  obtain ⟨cs, hb, hr, hle⟩ := h
  obtain ⟨ad, vs, ha, hc, ⟨sq, en, rfl, h1, h2, h3, h4, h5⟩, hset⟩ := hb.setC (α := Nod) hr hi
  have e0 : t.getD i default = t[i] := getD_at hi
  rw [e0]
  refine ⟨ad, sq, en, ha, hc, ⟨h1, h2, h3, h4, h5⟩, fun k n hk hn => ?_, fun k n hk hn => ?_, fun q l n hq hn => ?_, fun q l n hq hn => ?_⟩
  · obtain ⟨a, b, c, d⟩ := hset 1 (.int .i64 k) n (by decide) ⟨sq, en, by rw [hn]; rfl, by rw [hn]; exact h1, by rw [hn]; exact hk, by rw [hn]; exact h3, by rw [hn]; exact h4, by rw [hn]; exact h5⟩
    exact ⟨a, _, b, c, hle.trans d⟩
  · obtain ⟨a, b, c, d⟩ := hset 2 (.int .i64 k) n (by decide) ⟨sq, en, by rw [hn]; rfl, by rw [hn]; exact h1, by rw [hn]; exact h2, by rw [hn]; exact hk, by rw [hn]; exact h4, by rw [hn]; exact h5⟩
    exact ⟨a, _, b, c, hle.trans d⟩
  · obtain ⟨a, b, c, d⟩ := hset 3 (.slice q.a q.n q.c) n (by decide) ⟨q, en, by rw [hn]; rfl, by rw [hn]; exact h1, by rw [hn]; exact h2, by rw [hn]; exact h3, by rw [hn]; exact hq, by rw [hn]; exact h5⟩
    exact ⟨a, _, b, c, hle.trans d⟩
  · obtain ⟨a, b, c, d⟩ := hset 4 (.slice q.a q.n q.c) n (by decide) ⟨sq, q, by rw [hn]; rfl, by rw [hn]; exact h1, by rw [hn]; exact h2, by rw [hn]; exact h3, by rw [hn]; exact h4, by rw [hn]; exact hq⟩
    exact ⟨a, _, b, c, hle.trans d⟩
theorem copyT_ok {s : Sl} {t : Tre} {V : View} (h : SlR V s t) (hl : t.length ≤ 1000 ∧ ∀ n ∈ t, LightN n) : CallV Tryd.prog 18 ⟨[treV s]⟩ V fun r V' => ∃ x : Sl, r = treV x ∧ OwnT V V' x t := by
  refine f18_x ?_
  unfold f18_n
  have hn := h.n
  refine fun _ _ _ => loop2 (k := .int .i64) (l := .sl) (fun (j : Int) (x : Sl) V' => ∃ i : Nat, j = i ∧ i ≤ t.length ∧ OwnT V V' x (t.take i)) (fun (j : Int) _ _ => t.length - j.toNat) ⟨0, rfl, by omega, [], Buf.nil _ _ _, rfl, View.Le.refl _⟩ ?_
  rintro (j : Int) (x : Sl) V1 ⟨i, rfl, hi, hO⟩
  have hV1 := hO.le
  refine br_intro (fun hlt => ?_) (fun hge => ?_)
  · have hlt : i < t.length := by have := of_decide_eq_true hlt; omega
    obtain ⟨cs, hb, hr, hle⟩ := hO
    obtain ⟨ad, sq, en, ha, hc, hN⟩ := (h.mono hle).nodN hlt
    have hmem : t.getD i default ∈ t := by rw [getD_at hlt]; exact List.getElem_mem _
    have hx := hb.n_eq (α := Nod) hr
    rw [List.length_take] at hx
    have hl1 := hl.1
    refine ⟨by omega, by omega, ad, ha, _, _, _, sq, en, cellsAt_mono (View.minus_le _ _) hc, fun _ => ⟨trivial, V, hV1, ((copyN_ok hN (hl.2 _ hmem)).besideB hb).mono ?_⟩⟩
    rintro r V2 ⟨U, ⟨s', e', rfl, hN', hU⟩, hU2, hb2⟩
    have hle2 := hle.trans (hU.trans hU2)
    have hV2 := hle2.trans (View.minus_le _ _)
    refine ⟨_, _, _, s', e', rfl, hV2, fun r hr1 => ⟨hV2.trans (View.put_le (View.see_none_of_ge hr1)), ?_⟩⟩
    refine app0 (α := Nod) rfl hb2 (hr.mono (hU.trans hU2)) (hN'.mono hU2).rep hle2 hr1 rfl (by show (x.n + 1) * 72 ≤ _; omega) (by show x.n + 1 ≤ _; omega) ?_
    intro z V3 cs3 hb3 hr3 hle3
    refine ⟨inI64 (by omega) (by omega), ⟨i + 1, by omega, by omega, cs3, hb3, ?_, hle3⟩, by omega⟩
    rw [List.take_add_one, List.getElem?_eq_getElem hlt]
    rw [getD_at hlt] at hr3; exact hr3
  · have hge : i = t.length := by have := of_decide_eq_false hge; omega
    subst hge
    rw [List.take_length] at hO
    exact ⟨x, rfl, hO⟩
theorem refCopyT_ok {s : Sl} {t : Tre} {V : View} (h : SlR V s t) (hl : t.length ≤ 1000 ∧ ∀ n ∈ t, LightN n) : CallV Tryd.prog 17 ⟨[treV s]⟩ V fun r V' => ∃ x : Sl, r = treV x ∧ OwnT V V' x t := by
  refine f17_x ?_
  unfold f17_n
  have hn := h.n
  refine fun _ _ _ => loop2 (k := .int .i64) (l := .sl) (fun (j : Int) (x : Sl) V' => ∃ i : Nat, j = i ∧ i ≤ t.length ∧ OwnT V V' x (t.take i)) (fun (j : Int) _ _ => t.length - j.toNat) ⟨0, rfl, by omega, [], Buf.nil _ _ _, rfl, View.Le.refl _⟩ ?_
  rintro (j : Int) (x : Sl) V1 ⟨i, rfl, hi, hO⟩
  have hV1 := hO.le
  refine br_intro (fun hlt => ?_) (fun hge => ?_)
  · have hlt : i < t.length := by have := of_decide_eq_true hlt; omega
    obtain ⟨cs, hb, hr, hle⟩ := hO
    obtain ⟨ad, sq, en, ha, hc, hN⟩ := (h.mono hle).nodN hlt
    have hmem : t.getD i default ∈ t := by rw [getD_at hlt]; exact List.getElem_mem _
    have hx := hb.n_eq (α := Nod) hr
    rw [List.length_take] at hx
    have hl1 := hl.1
    refine ⟨by omega, by omega, ad, ha, _, _, _, sq, en, cellsAt_mono (View.minus_le _ _) hc, fun _ => ⟨trivial, V, hV1, ((refCopyN_ok hN (hl.2 _ hmem)).besideB hb).mono ?_⟩⟩
    rintro r V2 ⟨U, ⟨s', e', rfl, hN', hU⟩, hU2, hb2⟩
    have hle2 := hle.trans (hU.trans hU2)
    have hV2 := hle2.trans (View.minus_le _ _)
    refine ⟨_, _, _, s', e', rfl, hV2, fun r hr1 => ⟨hV2.trans (View.put_le (View.see_none_of_ge hr1)), ?_⟩⟩
    refine app0 (α := Nod) rfl hb2 (hr.mono (hU.trans hU2)) (hN'.mono hU2).rep hle2 hr1 rfl (by show (x.n + 1) * 72 ≤ _; omega) (by show x.n + 1 ≤ _; omega) ?_
    intro z V3 cs3 hb3 hr3 hle3
    refine ⟨inI64 (by omega) (by omega), ⟨i + 1, by omega, by omega, cs3, hb3, ?_, hle3⟩, by omega⟩
    rw [List.take_add_one, List.getElem?_eq_getElem hlt]
    rw [getD_at hlt] at hr3; exact hr3
  · have hge : i = t.length := by have := of_decide_eq_false hge; omega
    subst hge
    rw [List.take_length] at hO
    exact ⟨x, rfl, hO⟩
/-! ### cleared -/
/-- A file without names is none. -/
def clearN (n : Nod) : Nod := if n.kind = 1 ∧ n.links = 0 then Nod.zero else n
def clearU (t : Tre) : Tre := t.map clearN
noncomputable def clearT (t : Tre) : Tre := if mayT t then clearU t else []
theorem mayT_light {t : Tre} (h : mayT t = true) : t.length = 12 ∧ ∀ n ∈ t, LightN n := by
  unfold mayT at h
  simp only [Bool.and_eq_true, decide_eq_true_eq, List.all_eq_true] at h
  exact ⟨h.1.1.1.1, fun n hn => mayN_light (h.1.1.1.2 n hn)⟩
theorem clear_step (t : Tre) (i : Nat) (hi : i < t.length) : clearU (t.take (i + 1)) ++ t.drop (i + 1) = (clearU (t.take i) ++ t.drop i).set i (clearN (t.getD i default)) := by
  have h1 : (clearU (t.take i)).length = i := by simp [clearU]; omega
  rw [List.set_append_right _ _ (by omega), h1, Nat.sub_self, ← List.getElem_cons_drop (h := hi), List.set_cons_zero, List.take_add_one, List.getElem?_eq_getElem hi, getD_at hi]
  have e : clearU (t.take i ++ (some t[i]).toList) = clearU (t.take i) ++ [clearN t[i]] := List.map_append
  rw [e, List.append_assoc]; rfl
theorem clear_at (t : Tre) (i : Nat) (hi : i < t.length) : (clearU (t.take i) ++ t.drop i).getD i default = t.getD i default := by
  have h1 : (clearU (t.take i)).length = i := by simp [clearU]; omega
  rw [List.getD_eq_getElem?_getD, List.getElem?_append_right (by omega), h1, Nat.sub_self, List.getElem?_drop, Nat.add_zero, ← List.getD_eq_getElem?_getD]
theorem zero_rep {W : View} : Rep.rep W [.int .i64 0, .int .i64 0, .int .i64 0, .slice none 0 0, .slice none 0 0] Nod.zero := ⟨⟨none, 0, 0⟩, ⟨none, 0, 0⟩, rfl, zero64, zero64, zero64, SlR.nil _ _ _, SlR.nil _ _ _⟩
theorem zeroI : inI .i64 0 := zero64
theorem clear_loop {V0 V : View} {x : Sl} {t : Tre} (hO : OwnT V0 V x t) (hl : t.length ≤ 1000) {Q : Value → View → Prop} (hQ : ∀ V', OwnT V0 V' x (clearU t) → Q (treV x) V') :
    ∀ F : CurF (CurP [K.int .i64] → Prop) [K.int .i64], (∀ (j : Int) V J, F j V J = br (decide (j < (x.n : Int))) (0 ≤ j ∧ j < (x.n : Int) ∧ ∃ ad, x.a = some ad ∧ ∃ x_2 x_3 x_4 : Int, ∃ x_5 x_6 : Sl, cellsAt V (ad.add (j.toNat * 5)) [.int .i64 x_2, .int .i64 x_3, .int .i64 x_4, .slice x_5.a x_5.n x_5.c, .slice x_6.a x_6.n x_6.c] ∧ ∀ _b : Nat, joinP [] (fun J => br (bif decide (x_2 = 1) then decide (x_3 = 0) else false) (0 ≤ j ∧ j < (x.n : Int) ∧ ∃ ad, x.a = some ad ∧ canSet V (ad.add (j.toNat * 5)) 5 ∧ J (V.sets (ad.add (j.toNat * 5)) [.int .i64 0, .int .i64 0, .int .i64 0, .slice none 0 0, .slice none 0 0])) (J V)) fun V => inI .i64 (j + 1) ∧ J (j + 1) V) (Q (treV x) V)) →
    loopP [K.int .i64] F (0, ()) V := by
  intro F hF
  refine loop1 (k := .int .i64) (fun (j : Int) V' => ∃ i : Nat, j = i ∧ i ≤ t.length ∧ OwnT V0 V' x (clearU (t.take i) ++ t.drop i)) (fun (j : Int) _ => t.length - j.toNat) ⟨0, rfl, by omega, by simpa [clearU] using hO⟩ ?_
  rintro (j : Int) V1 ⟨i, rfl, hi, hO1⟩
  rw [hF]
  have hlen : (clearU (t.take i) ++ t.drop i).length = t.length := by simp [clearU]; omega
  have hxn := hO1.slR.n
  refine br_intro (fun hlt => ?_) (fun hge => ?_)
  · have hlt : i < t.length := by have := of_decide_eq_true hlt; omega
    obtain ⟨ad, sq, en, ha, hc, hN⟩ := hO1.slR.nodN (i := i) (by omega)
    rw [clear_at t i hlt] at hc hN
    refine ⟨by omega, by omega, ad, ha, _, _, _, sq, en, hc, fun _ => ?_⟩
    refine joinP_cut (fun _ V' => OwnT V0 V' x (clearU (t.take (i + 1)) ++ t.drop (i + 1))) (br_intro (fun hb => ?_) (fun hb => ?_)) ?_
    · have hb : (t.getD i default).kind = 1 ∧ (t.getD i default).links = 0 := by
        cases h1 : decide ((t.getD i default).kind = 1) with
        | true => rw [h1] at hb; exact ⟨of_decide_eq_true h1, of_decide_eq_true hb⟩
        | false => rw [h1] at hb; cases hb
      obtain ⟨ad2, ha2, h1, h2⟩ := hO1.set (i := i) (n := Nod.zero) (by omega) (fun _ _ => zero_rep)
      refine ⟨by omega, by omega, ad2, ha2, h1, ?_⟩
      rw [clear_step t i hlt, show clearN (t.getD i default) = Nod.zero by unfold clearN; rw [if_pos hb]]
      exact h2
    · have hb : ¬ ((t.getD i default).kind = 1 ∧ (t.getD i default).links = 0) := by
        rintro ⟨h1, h2⟩
        rw [decide_eq_true h1, decide_eq_true h2] at hb; cases hb
      show OwnT V0 V1 x _
      rw [clear_step t i hlt, show clearN (t.getD i default) = t.getD i default by unfold clearN; rw [if_neg hb]]
      have : (clearU (t.take i) ++ t.drop i).set i (t.getD i default) = clearU (t.take i) ++ t.drop i := by
        rw [← clear_at t i hlt, getD_at (by omega)]
        exact List.set_getElem_self _
      rw [this]; exact hO1
    · rintro ⟨⟩ V2 hO2
      exact ⟨inI64 (by omega) (by omega), ⟨i + 1, by omega, by omega, hO2⟩, by omega⟩
  · have hge : i = t.length := by have := of_decide_eq_false hge; omega
    subst hge
    rw [List.take_length, List.drop_length, List.append_nil] at hO1
    exact hQ V1 hO1
theorem clearT_ok {s : Sl} {t : Tre} {V : View} (h : SlR V s t) : CallV Tryd.prog 27 ⟨[treV s]⟩ V fun r V' => ∃ x : Sl, r = treV x ∧ SlR V' x (clearT t) ∧ V.Le V' := by
  refine f27_x ?_
  unfold f27_n
  refine fun _ _ => (mayT_ok h).mono ?_
  rintro r V1 ⟨rfl, hV1⟩
  refine ⟨_, rfl, br_intro (fun hb => ⟨⟨none, 0, 0⟩, rfl, ?_, hV1⟩) (fun hb => ?_)⟩
  · unfold clearT; rw [not_t hb]; exact SlR.nil _ _ _
  have hM := not_f hb
  obtain ⟨h12, hall⟩ := mayT_light hM
  refine (copyT_ok (h.mono hV1) ⟨by omega, hall⟩).mono ?_
  rintro r V2 ⟨x, rfl, hO⟩
  refine ⟨x, rfl, fun _ => clear_loop (Q := fun r V' => ∃ x : Sl, r = treV x ∧ SlR V' x (clearT t) ∧ V.Le V') hO (by omega) (fun V' hO' => ⟨x, rfl, ?_, hV1.trans hO'.le⟩) _ (fun _ _ _ => rfl)⟩
  unfold clearT; rw [if_pos hM]; exact hO'.slR
end Go.Proofs.YtpalkdmngckcoaaDoor

/- DirCounts. -/
namespace Go.Proofs.YtpalkdmngckcoaaDoor
open Go
/-- What a node adds to the links. -/
def linkN (t : Tre) (i : Nat) : Int := if kindT t i = 1 then (t.getD i default).links else if kindT t i = 2 ∧ 0 < i then 1 else 0
def linkU (t : Tre) : Nat → Int
  | 0 => 0
  | k + 1 => linkU t k + linkN t k
def sumU (f : Nat → Nat) : Nat → Nat
  | 0 => 0
  | k + 1 => sumU f k + f k
theorem sumU_add (f g : Nat → Nat) : ∀ k, sumU (fun i => f i + g i) k = sumU f k + sumU g k
  | 0 => rfl
  | k + 1 => by simp only [sumU, sumU_add f g k]; omega
theorem sumU_one (q : Nat) : ∀ k, sumU (fun i => if q = i then 1 else 0) k = if q < k then 1 else 0
  | 0 => rfl
  | k + 1 => by
    simp only [sumU, sumU_one q k]
    split <;> split <;> split <;> omega
theorem sumU_zero : ∀ k, sumU (fun _ => 0) k = 0
  | 0 => rfl
  | k + 1 => by simp only [sumU, sumU_zero k]
/-- Each entry names one node. -/
theorem count_sum : ∀ {l : List Ent}, (∀ e ∈ l, 0 ≤ e.node ∧ e.node < 12) → sumU (fun i => l.countP fun e => decide (e.node = (i : Int))) 12 = l.length
  | [], _ => sumU_zero 12
  | e :: l, h => by
    have ih := count_sum (l := l) fun x hx => h x (by simp [hx])
    have he := h e (by simp)
    have h1 : (fun i : Nat => (e :: l).countP fun e => decide (e.node = (i : Int))) = fun i : Nat => (l.countP fun e => decide (e.node = (i : Int))) + (if e.node.toNat = i then 1 else 0) := by
      funext i
      rw [List.countP_cons]
      congr 1
      by_cases hi : e.node.toNat = i
      · rw [if_pos hi, if_pos (decide_eq_true (show e.node = (i : Int) by omega))]
      · rw [if_neg hi, if_neg]
        intro hc
        have := of_decide_eq_true hc; omega
    rw [h1, sumU_add, ih, sumU_one, if_pos (by omega)]; rfl
theorem linkN_named {t : Tre} (h : MayF t) {i : Nat} (hi : i < 12) : linkN t i = (namedT t (i : Int) : Nat) := by
  unfold linkN
  have hz : namedT t ((0 : Nat) : Int) = 0 := by
    rw [List.countP_eq_zero]
    intro e he hd
    obtain ⟨n, hn, hen⟩ := List.mem_flatMap.1 he
    obtain ⟨j, hj, rfl⟩ := List.getElem_of_mem hn
    have hx : e ∈ entsT t j := by unfold entsT; rw [getD_at hj]; exact hen
    have := h.zero hx
    have := of_decide_eq_true hd
    omega
  rcases kind_of (h.at hi) with hk | hk | hk
  · have h0 := h.none i hi hk
    rw [if_neg (show ¬ kindT t i = 1 by unfold kindT; omega), if_neg (show ¬ (kindT t i = 2 ∧ 0 < i) by unfold kindT; omega), h0]; rfl
  · rw [if_pos (show kindT t i = 1 from hk)]
    exact h.file i hi hk
  · rw [if_neg (show ¬ kindT t i = 1 by unfold kindT; omega)]
    by_cases h0 : 0 < i
    · have := (h.dir i hi hk).2
      rw [if_pos ⟨hk, h0⟩]
      omega
    · have : i = 0 := by omega
      subst this
      rw [if_neg (by omega), hz]; rfl
theorem linkU_sum {t : Tre} (h : MayF t) : ∀ k, k ≤ 12 → linkU t k = (sumU (fun i => namedT t (i : Int)) k : Nat)
  | 0, _ => rfl
  | k + 1, hk => by
    simp only [linkU, sumU, linkU_sum h k (by omega), linkN_named h (show k < 12 by omega)]
    omega
theorem linkU_all {t : Tre} (h : MayF t) : linkU t 12 = ((allE t).length : Nat) := by
  rw [linkU_sum h 12 (by omega)]
  congr 1
  refine count_sum fun e he => ?_
  obtain ⟨n, hn, hen⟩ := List.mem_flatMap.1 he
  obtain ⟨j, hj, rfl⟩ := List.getElem_of_mem hn
  have hx : e ∈ entsT t j := by unfold entsT; rw [getD_at hj]; exact hen
  have := h.ent hx
  omega
theorem linkU_le {t : Tre} (h : MayF t) : ∀ k, k ≤ 12 → 0 ≤ linkU t k ∧ linkU t k ≤ 120 * k
  | 0, _ => by simp [linkU]
  | k + 1, hk => by
    have ih := linkU_le h k (by omega)
    have hm := h.at (show k < 12 by omega)
    have : 0 ≤ linkN t k ∧ linkN t k ≤ 120 := by
      unfold linkN
      split
      · rename_i hk1
        have hk1 : (t.getD k default).kind = 1 := hk1
        unfold mayN at hm
        rw [if_neg (by omega), if_pos hk1] at hm
        unfold fileB at hm
        simp only [Bool.and_eq_true] at hm
        have := hm.1.1.1.1
        unfold within at this
        simpa using this
      · split <;> omega
    simp only [linkU]
    omega
/-! ### a name less -/
theorem ents_len_set {t : Tre} {k : Nat} {x : Int} (hk : k < t.length) {n : Nod} {e : Ent} (he : (t.getD k default).ents = n.ents ++ [e]) (hx : e.node = x) : namedT (t.set k n) x + 1 = namedT t x := by
  induction t generalizing k with
  | nil => simp at hk
  | cons m t ih =>
    unfold namedT at ih ⊢
    cases k with
    | zero =>
      have he : m.ents = n.ents ++ [e] := by simpa using he
      rw [List.set_cons_zero, allE_cons, allE_cons, he]
      simp only [List.countP_append, List.countP_cons, List.countP_nil, hx, decide_true, if_true]
      omega
    | succ k =>
      rw [List.set_cons_succ, allE_cons, allE_cons, List.countP_append, List.countP_append]
      have := ih (k := k) (by simpa using hk) (by simpa using he)
      omega
theorem less_no {t : Tre} (hM : mayT t = true) {k : Nat} (hk : k < 12) (hne : (entsT t k) ≠ []) {n : Nod} (hn : n = { t.getD k default with ents := (entsT t k).dropLast }) : mayT (t.set k n) = false := by
  have hF := mayF hM
  have h12 := hF.len
  cases hu : mayT (t.set k n) with
  | false => rfl
  | true =>
    exfalso
    have hU := mayF hu
    have hsplit : (t.getD k default).ents = n.ents ++ [(entsT t k).getLast hne] := by
      rw [hn]; exact (List.dropLast_concat_getLast hne).symm
    have hlast : (entsT t k).getLast hne ∈ entsT t k := List.getLast_mem hne
    generalize (entsT t k).getLast hne = e at *
    have hq := hF.ent hlast
    have h1 := ents_len_set (t := t) (k := k) (by omega) hsplit rfl
    have h2 : ∀ (f : Nod → Int), (∀ l, f { t.getD k default with ents := l } = f (t.getD k default)) → ∀ j, f ((t.set k n).getD j default) = f (t.getD j default) := by
      intro f hf j
      rw [List.getD_eq_getElem?_getD, List.getD_eq_getElem?_getD, List.getElem?_set]
      split
      · rename_i hj
        subst hj
        rw [if_pos (by omega), hn]
        have := hf (entsT t k).dropLast
        rw [List.getD_eq_getElem?_getD] at this
        simpa [List.getD_eq_getElem?_getD] using this
      · rfl
    have hkind := h2 Nod.kind (fun _ => rfl) e.node.toNat
    have hlinks := h2 Nod.links (fun _ => rfl) e.node.toNat
    have hcast : ((e.node.toNat : Nat) : Int) = e.node := by omega
    have hone : 1 ≤ namedT t e.node := named_one hlast rfl
    rcases kind_of (hF.at (show e.node.toNat < 12 by omega)) with hk0 | hk1 | hk2
    · exact hq.2.2.2.2.2 hk0
    · have a := hF.file e.node.toNat (by omega) hk1
      have b := hU.file e.node.toNat (by omega) (by unfold kindT; rw [hkind]; exact hk1)
      rw [hcast] at a b
      rw [hlinks] at b
      omega
    · have a := (hF.dir e.node.toNat (by omega) hk2).2
      have b := (hU.dir e.node.toNat (by omega) (by unfold kindT; rw [hkind]; exact hk2)).2
      rw [hcast] at a b
      omega
theorem mayT_light' {t : Tre} (h : mayT t = true) : t.length ≤ 1000 ∧ ∀ n ∈ t, LightN n := by
  have := mayT_light h
  exact ⟨by omega, this.2⟩
theorem dirCounts_ok {s : Sl} {t : Tre} {a : Int} {V : View} (h : SlR V s t) (hg : Glo V) : CallV Tryd.prog 8 ⟨[treV s, .int .i64 a]⟩ V fun r V' => r = .bool true ∧ V.Le V' := by
  refine f8_x ?_
  unfold f8_n
  refine fun _ => joinP_cut (fun q V' => (q.1 = false → mayT t = true) ∧ V.Le V') ((light15s_ok h).mono ?_) ?_
  · rintro r V1 ⟨x, rfl, x0, x1, x2, x3, rfl⟩
    refine ⟨x, rfl, br_intro (fun _ => ⟨fun h => (by cases h), View.Le.refl _⟩) (fun _ => (mayT_ok h).mono ?_)⟩
    rintro r V2 ⟨rfl, hV2⟩
    refine ⟨_, rfl, br_intro (fun _ => ⟨fun h => (by cases h), hV2⟩) (fun hb => (mayTree_ok (h.mono hV2)).mono ?_)⟩
    rintro r V3 ⟨rfl, hV3⟩
    exact ⟨_, rfl, fun _ => not_f hb, hV2.trans hV3⟩
  rintro ⟨q, ⟨⟩⟩ V1 ⟨hq, hV1⟩
  simp only at hq
  dsimp only [unc]
  refine br_intro (fun _ => awake15J hV1 (hg.mono hV1) fun V' hV => ⟨rfl, hV⟩) (fun hb => ?_)
  have hM := hq hb
  have hF := mayF hM
  have h12 := hF.len
  have hn := h.n
  have he10 : ∀ n ∈ t, n.ents.length ≤ 10 := fun n hn => mayL_len (mayN_ents (hF.may n hn))
  have h1 := h.mono hV1
  refine loop3 (k := .int .i64) (l := .int .i64) (n := .int .i64) (fun (x : Int) (y : Int) (j : Int) V' => ∃ i : Nat, j = i ∧ i ≤ 12 ∧ x = ((allE (t.take i)).length : Nat) ∧ y = linkU t i ∧ V' = V1) (fun _ _ (j : Int) _ => 12 - j.toNat) ⟨0, rfl, by omega, rfl, rfl, rfl⟩ ?_
  rintro (x : Int) (y : Int) (j : Int) V2 ⟨i, rfl, hi, rfl, rfl, rfl⟩
  refine br_intro (fun hlt => ?_) (fun hge => ?_)
  · have hlt : i < 12 := by have := of_decide_eq_true hlt; omega
    obtain ⟨ad, sq, en, ha, hc, hN⟩ := h1.nodN (i := i) (by omega)
    have hen := hN.ents.n
    have h10 := he10 _ (getD_mem (t := t) (i := i) (by omega))
    have hal := allE_len (t := t.take i) (m := 10) (fun n hn => he10 n (List.mem_of_mem_take hn))
    rw [List.length_take] at hal
    have hU := linkU_le hF i hi
    have hU1 := linkU_le hF (i + 1) (by omega)
    have hlk : linkU t (i + 1) = linkU t i + linkN t i := rfl
    have hstep : (allE (t.take (i + 1))).length = (allE (t.take i)).length + (t.getD i default).ents.length := by
      rw [allE_take (by omega), List.length_append]
    have e1 : (∀ y', y' = linkU t i + (if kindT t i = 1 then (t.getD i default).links else 0) → y' + (if kindT t i = 2 ∧ 0 < i then 1 else 0) = linkU t (i + 1)) := by
      intro y' hy'
      rw [hy', hlk]
      unfold linkN
      split <;> split <;> omega
    refine ⟨by omega, by omega, ad, ha, _, _, _, sq, en, hc, fun _ => ⟨inI64 (by omega) (by omega), joinP_cut (fun q V' => q.1 = linkU t i + (if kindT t i = 1 then (t.getD i default).links else 0) ∧ V' = V2) (br_intro (fun hk => ?_) (fun hk => ?_)) ?_⟩⟩
    · have hk : kindT t i = 1 := of_decide_eq_true hk
      have : linkN t i = (t.getD i default).links := by unfold linkN; rw [if_pos hk]
      refine ⟨inI64 (by omega) (by omega), ?_, rfl⟩
      rw [if_pos hk]
    · have hk : ¬ kindT t i = 1 := of_decide_eq_false hk
      refine ⟨?_, rfl⟩
      rw [if_neg hk, Int.add_zero]
    rintro ⟨y, ⟨⟩⟩ V3 ⟨hy, hV⟩
    simp only at hy hV
    subst hV
    dsimp only [unc]
    refine joinP_cut (fun q V' => q.1 = linkU t (i + 1) ∧ V' = V3) (br_intro (fun hk => ?_) (fun hk => ?_)) ?_
    · have hk : kindT t i = 2 ∧ 0 < i := by
        cases h2 : decide ((t.getD i default).kind = 2) with
        | false => rw [h2] at hk; cases hk
        | true =>
          rw [h2] at hk
          have hk : decide (0 < (i : Int)) = true := hk
          exact ⟨of_decide_eq_true h2, by have := of_decide_eq_true hk; omega⟩
      have e2 := e1 y hy
      rw [if_pos hk] at e2
      exact ⟨inI64 (by omega) (by omega), e2, rfl⟩
    · have hk : ¬ (kindT t i = 2 ∧ 0 < i) := by
        rintro ⟨h2, h0⟩
        rw [decide_eq_true (show (t.getD i default).kind = 2 from h2)] at hk
        have hk : decide (0 < (i : Int)) = false := hk
        have := of_decide_eq_false hk; omega
      have e2 := e1 y hy
      rw [if_neg hk, Int.add_zero] at e2
      exact ⟨e2, rfl⟩
    rintro ⟨y2, ⟨⟩⟩ V4 ⟨hy2, hV⟩
    simp only at hy2 hV
    subst hV hy2
    dsimp only [unc]
    refine joinP_cut (fun q V' => q.1 = false ∧ V' = V4) ⟨trivial, V4, View.Le.refl _, br_intro (fun _ => (dirNames_ok h1 h12 he10).mono ?_) (fun _ => ⟨rfl, rfl⟩)⟩ ?_
    · rintro r V5 ⟨rfl, rfl⟩
      refine ⟨_, rfl, View.Le.refl _, (named_ok h1 h12 he10).mono ?_⟩
      rintro r V6 ⟨rfl, rfl⟩
      exact ⟨_, rfl, by simp, rfl⟩
    rintro ⟨q, ⟨⟩⟩ V5 ⟨hq5, hV⟩
    simp only at hq5 hV
    subst hq5 hV
    dsimp only [unc]
    exact br_intro (fun h => absurd h (by decide)) (fun _ => ⟨inI64 (by omega) (by omega), ⟨i + 1, by omega, by omega, by rw [hstep]; omega, rfl, rfl⟩, by omega⟩)
  · have hge : i = 12 := by have := of_decide_eq_false hge; omega
    subst hge
    rw [List.take_of_length_le (by omega), ← linkU_all hF]
    refine br_intro (fun hx => absurd hx (by simp)) (fun _ => ?_)
    have hw12 : IntKind.u64.wrap ((s.n : Nat) : Int) = 12 := by rw [hn, h12]; decide
    rw [hw12]
    obtain ⟨k, hk, hk12⟩ := mod12 a
    rw [hk]
    refine ⟨by decide, inI64 (by omega) (by omega), (copyT_ok h1 (mayT_light' hM)).mono ?_⟩
    rintro r V3 ⟨x, rfl, hO⟩
    have hxn := hO.slR.n
    have hV03 := hV1.trans hO.le
    obtain ⟨ad, sq, en, hax, hcx, hNx, _, _, _, hset⟩ := hO.setC (i := k) (by omega)
    have hen := hNx.ents.n
    have h10 := he10 _ (getD_mem (t := t) (i := k) (by omega))
    refine ⟨x, rfl, fun _ => br_intro (fun hc => ?_) (fun _ => ⟨by omega, by omega, ad, hax, en, cellsAt_nth hcx 4 rfl, br_intro (fun hpos => ?_) (fun _ => awake15J hV03 (hg.mono hV03) fun V' hV => ⟨rfl, hV⟩)⟩)⟩
    · have hc := of_decide_eq_false (not_t hc)
      exact absurd (show ((x.n : Nat) : Int) = s.n by omega) hc
    · have hpos : 0 < en.n := by have := of_decide_eq_true hpos; omega
      have hec := hNx.ents.c
      have hne : entsT t k ≠ [] := by
        intro e
        have : (t.getD k default).ents = [] := e
        rw [this] at hen; simp at hen; omega
      have hcut := hNx.ents.take (j := en.n - 1) (by omega)
      have e3 : (if en.c = 0 then en.a else Option.map (fun (x : Addr) => x.add 0) en.a) = en.a := by rw [map_add_zero]; simp
      have e4 : ((en.n : Int) - 1).toNat - ((0 : Int)).toNat = en.n - 1 := by omega
      have e5 : (entsT t k).dropLast = (t.getD k default).ents.take (en.n - 1) := by rw [hen]; exact List.dropLast_eq_take
      obtain ⟨hcs, hO'⟩ := hset ⟨en.a, en.n - 1, en.c⟩ _ { t.getD k default with ents := (entsT t k).dropLast } hcut (by rw [e5])
      refine ⟨trivial, V3, View.Le.refl _, by omega, by omega, ad, hax, en, cellsAt_nth hcx 4 rfl, inI64 (by omega) (by omega), by decide, by omega, by omega, by omega, by omega, ad, hax, hcs, ?_⟩
      have hno := less_no hM hk12 hne (n := { t.getD k default with ents := (entsT t k).dropLast }) rfl
      have hV' : V.Le (V3.sets ((ad.add (k * 5)).add 4) [.slice en.a (en.n - 1) en.c]) := hV1.trans hO'.le
      refine joinP_cut (fun g V' => g.1 = true ∧ V.Le V') ?_ ?_
      · have e6 : (if en.c = ((0 : Int)).toNat then en.a else Option.map (fun (x : Addr) => x.add (((0 : Int)).toNat * 2)) en.a) = en.a := by simpa using e3
        simp only [Int.toNat_zero, Nat.zero_mul, Nat.sub_zero] at e6 ⊢
        rw [e6, show ((en.n : Int) - 1).toNat = en.n - 1 by omega]
        refine (mayT_ok hO'.slR).mono ?_
        rintro r V4 ⟨rfl, hV4⟩
        rw [hno]
        exact ⟨_, rfl, br_intro (fun _ => awake15J (hV'.trans hV4) (hg.mono (hV'.trans hV4)) fun V' hV => ⟨rfl, hV⟩) (fun h => absurd h (by decide))⟩
      · rintro ⟨g, ⟨⟩⟩ V4 ⟨hg1, hV⟩
        simp only at hg1
        subst hg1
        exact ⟨rfl, hV⟩
end Go.Proofs.YtpalkdmngckcoaaDoor

/- May operations be taken in an order: the same check over bits of a number. -/
namespace Go.Proofs.YtpalkdmngckcoaaDoor
open Go
def rdyM (ops : Array Oper) (m : Nat) : List Nat := (List.range ops.size).filter fun i => !Nat.testBit m i && ((ops[i]?).map (fun o => o.after.all fun e => !Region.binds .any e || Nat.testBit m e.on)).getD false
def freeM (ops : Array Oper) (m i : Nat) : Bool := match ops[i]? with
  | none => false
  | some oi => (List.range ops.size).all fun j => j == i || Nat.testBit m j || match ops[j]? with
      | some oj => oj.after.any (fun e => Region.binds .any e && e.on == i) || oi.apart ops oj
      | none => true
def drFromM (P : Program) (ops : Array Oper) : DT → Bool → Nat → Bool → Bool
  | .done, true, m, _ => (rdyM ops m).isEmpty
  | .done, false, _, _ => false
  | .no, top, _, _ => !top
  | .fl i t, true, m, dead => match ops[i]? with
    | some o => floats P o.op && freeM ops m i && (rdyM ops m).contains i && !(isLoad P o.op && dead) && drFromM P ops t true (m ||| 2 ^ i) dead
    | none => false
  | .fl _ _, false, _, _ => false
  | .alt i e _ t r, top, m, dead => match ops[i]? with
    | some o => !floats P o.op && e == early P ops i && (!top || rdyM ops m == i :: r.heads) && !(early P ops i && dead) && drFromM P ops t true (m ||| 2 ^ i) (dead || !early P ops i) &&
        (r.heads.isEmpty || r.depth == t.depth + 1) && drFromM P ops r false m dead
    | none => false
/-- The listed ones are the bits of m. -/
structure BitsR (ops : Array Oper) (listed : Array Bool) (m : Nat) : Prop where
  size : listed.size = ops.size
  bit : ∀ j d, j < ops.size → listed.getD j d = Nat.testBit m j
  out : ∀ j, ops.size ≤ j → Nat.testBit m j = false
theorem BitsR.get {ops : Array Oper} {listed : Array Bool} {m : Nat} (h : BitsR ops listed m) (j : Nat) : listed.getD j false = Nat.testBit m j := by
  by_cases hj : j < ops.size
  · exact h.bit j false hj
  · rw [h.out j (by omega)]
    unfold Array.getD
    rw [dif_neg (by rw [h.size]; exact hj)]
theorem BitsR.set {ops : Array Oper} {listed : Array Bool} {m : Nat} (h : BitsR ops listed m) {i : Nat} (hi : i < ops.size) : BitsR ops (listed.setIfInBounds i true) (m ||| 2 ^ i) := by
  refine ⟨by rw [Array.size_setIfInBounds]; exact h.size, fun j d hj => ?_, fun j hj => ?_⟩
  · have hb := h.bit j d hj
    rw [Nat.testBit_or, Nat.testBit_two_pow]
    rw [Array.getD_eq_getD_getElem?] at hb ⊢
    rw [Array.getElem?_setIfInBounds]
    by_cases e : i = j
    · subst e
      rw [if_pos rfl, if_pos (by rw [h.size]; exact hi)]
      simp
    · rw [if_neg e, hb, decide_eq_false e, Bool.or_false]
  · rw [Nat.testBit_or, Nat.testBit_two_pow, h.out j hj, decide_eq_false (by omega)]; rfl
theorem rdy_eq {ops : Array Oper} {listed : Array Bool} {m : Nat} (h : BitsR ops listed m) : Region.ready .any ops listed = rdyM ops m := by
  unfold Region.ready rdyM
  apply List.filter_congr
  intro i hi
  rw [h.bit i true (List.mem_range.1 hi)]
  have : ∀ (o : Oper), (o.after.all fun e => !Region.binds .any e || listed.getD e.on false) = (o.after.all fun e => !Region.binds .any e || Nat.testBit m e.on) := fun o => by
    congr 1
    funext e
    rw [h.get]
  simp only [this]
theorem free_eq {ops : Array Oper} {listed : Array Bool} {m : Nat} (h : BitsR ops listed m) (i : Nat) : Region.free .any ops listed i = freeM ops m i := by
  unfold Region.free freeM
  cases ho : ops[i]? with
  | none => rfl
  | some oi =>
    simp only
    rw [Bool.eq_iff_iff, List.all_eq_true, List.all_eq_true]
    constructor
    · intro hall j hj
      have := hall j hj
      rw [h.bit j true (List.mem_range.1 hj)] at this
      exact this
    · intro hall j hj
      have := hall j hj
      rw [h.bit j true (List.mem_range.1 hj)]
      exact this
theorem drFrom_eq {P : Program} {ops : Array Oper} : ∀ (D : DT) (top : Bool) (listed : Array Bool) (m : Nat) (dead : Bool), BitsR ops listed m → drFrom P ops D top listed dead = drFromM P ops D top m dead
  | .done, true, listed, m, dead, h => by unfold drFrom drFromM; rw [rdy_eq h]
  | .done, false, _, _, _, _ => by unfold drFrom drFromM; rfl
  | .no, _, _, _, _, _ => by unfold drFrom drFromM; rfl
  | .fl i t, true, listed, m, dead, h => by
    unfold drFrom drFromM
    rw [rdy_eq h, free_eq h]
    cases ho : ops[i]? with
    | none => rfl
    | some o =>
      have hi : i < ops.size := (Array.getElem?_eq_some_iff.1 ho).1
      simp only
      rw [drFrom_eq t true _ _ dead (h.set hi)]
  | .fl _ _, false, _, _, _, _ => by unfold drFrom drFromM; rfl
  | .alt i e g t r, top, listed, m, dead, h => by
    unfold drFrom drFromM
    rw [rdy_eq h]
    cases ho : ops[i]? with
    | none => rfl
    | some o =>
      have hi : i < ops.size := (Array.getElem?_eq_some_iff.1 ho).1
      simp only
      rw [drFrom_eq t true _ _ _ (h.set hi), drFrom_eq r false _ _ dead h]
theorem drOk_fast {P : Program} {ops : Array Oper} {sched : DT} (h : (Region.noSelect ops && drFromM P ops sched true 0 false && sched.depth == ops.size) = true) : drOk P ops sched := by
  have h0 : BitsR ops (Array.replicate ops.size false) 0 := by
    refine ⟨Array.size_replicate, fun j d hj => ?_, fun j _ => Nat.zero_testBit j⟩
    rw [Array.getD_eq_getD_getElem?, Array.getElem?_replicate, if_pos hj, Nat.zero_testBit]; rfl
  unfold drOk
  rw [drFrom_eq sched true _ _ false h0, h]
  trivial
/-- The numbers that come up, written out. -/
inductive MT where
  | nil
  | fl (m : Nat) (t : MT)
  | alt (m : Nat) (d : Bool) (t r : MT)
def drFromL (P : Program) (ops : Array Oper) : DT → MT → Bool → Nat → Bool → Bool
  | .done, _, true, m, _ => (rdyM ops m).isEmpty
  | .no, _, top, _, _ => !top
  | .fl i t, .fl m' t', true, m, dead => Nat.beq (Nat.lor m (2 ^ i)) m' && match ops[i]? with
    | some o => floats P o.op && freeM ops m i && (rdyM ops m).contains i && !(isLoad P o.op && dead) && drFromL P ops t t' true m' dead
    | none => false
  | .alt i e _ t r, .alt m' d' t' r', top, m, dead => Nat.beq (Nat.lor m (2 ^ i)) m' && ((dead || !early P ops i) == d') && match ops[i]? with
    | some o => !floats P o.op && e == early P ops i && (!top || rdyM ops m == i :: r.heads) && !(early P ops i && dead) && drFromL P ops t t' true m' d' &&
        (r.heads.isEmpty || r.depth == t.depth + 1) && drFromL P ops r r' false m dead
    | none => false
  | _, _, _, _, _ => false
theorem drL_sound {P : Program} {ops : Array Oper} : ∀ (D : DT) (M : MT) (top : Bool) (m : Nat) (dead : Bool), drFromL P ops D M top m dead = true → drFromM P ops D top m dead = true
  | .done, M, true, m, dead, h => by cases M <;> exact h
  | .done, M, false, m, dead, h => by cases M <;> cases h
  | .no, M, top, m, dead, h => by cases M <;> exact h
  | .fl i t, .nil, top, m, dead, h => by cases top <;> cases h
  | .fl i t, .alt _ _ _ _, top, m, dead, h => by cases top <;> cases h
  | .fl i t, .fl m' t', false, m, dead, h => by cases h
  | .fl i t, .fl m' t', true, m, dead, h => by
    unfold drFromL at h
    rw [Bool.and_eq_true] at h
    obtain ⟨h1, h2⟩ := h
    have h1 : m ||| 2 ^ i = m' := Nat.eq_of_beq_eq_true h1
    unfold drFromM
    cases ho : ops[i]? with
    | none => rw [ho] at h2; cases h2
    | some o =>
      rw [ho] at h2
      simp only at h2 ⊢
      rw [Bool.and_eq_true] at h2 ⊢
      rw [h1]
      exact ⟨h2.1, drL_sound t t' true m' dead h2.2⟩
  | .alt i e g t r, .nil, top, m, dead, h => by cases top <;> cases h
  | .alt i e g t r, .fl _ _, top, m, dead, h => by cases top <;> cases h
  | .alt i e g t r, .alt m' d' t' r', top, m, dead, h => by
    unfold drFromL at h
    rw [Bool.and_eq_true, Bool.and_eq_true] at h
    obtain ⟨⟨h1, hd⟩, h2⟩ := h
    have h1 : m ||| 2 ^ i = m' := Nat.eq_of_beq_eq_true h1
    have hd : (dead || !early P ops i) = d' := eq_of_beq hd
    unfold drFromM
    cases ho : ops[i]? with
    | none => rw [ho] at h2; cases h2
    | some o =>
      rw [ho] at h2
      simp only at h2 ⊢
      rw [Bool.and_eq_true, Bool.and_eq_true, Bool.and_eq_true] at h2 ⊢
      rw [h1, hd]
      exact ⟨⟨⟨h2.1.1.1, drL_sound t t' true m' d' h2.1.1.2⟩, h2.1.2⟩, drL_sound r r' false m dead h2.2⟩
theorem drOk_faster {P : Program} {ops : Array Oper} {sched : DT} (M : MT) (h1 : Region.noSelect ops = true) (h2 : drFromL P ops sched M true 0 false = true) (h3 : (sched.depth == ops.size) = true) : drOk P ops sched :=
  drOk_fast (by rw [h1, drL_sound sched M true 0 false h2, h3]; rfl)
end Go.Proofs.YtpalkdmngckcoaaDoor

/- RootBack: what is written is read as it was. -/
namespace Go.Proofs.YtpalkdmngckcoaaDoor
open Go
theorem refInts_ok {s t : Sl} {l m : List Int} {V : View} (h : SlR V s l) (k : SlR V t m) : CallV Tryd.prog 54 ⟨[.slice s.a s.n s.c, .slice t.a t.n t.c]⟩ V fun r V' => r = .bool (decide (l = m)) ∧ V' = V := by
  refine f54_x ?_
  unfold f54_n
  have hn := h.n; have hlim := h.lim; have kn := k.n
  refine br_intro (fun hne => ⟨?_, rfl⟩) (fun heq => ?_)
  · have hne : ¬ (s.n : Int) = t.n := by simpa using hne
    rw [decide_eq_false]
    intro e; subst e; omega
  have heq : (s.n : Int) = t.n := by simpa using heq
  refine loop1 (k := .int .i64) (fun (x : Int) V' => V' = V ∧ 0 ≤ x ∧ x ≤ s.n ∧ l.take x.toNat = m.take x.toNat) (fun (x : Int) _ => s.n - x.toNat) ⟨rfl, by omega, by omega, rfl⟩ ?_
  rintro (x : Int) V' ⟨rfl, h0, h1, h2⟩
  refine br_intro (fun hlt => ?_) (fun hge => ?_)
  · have hlt : x < s.n := by simpa using hlt
    obtain ⟨ad, hx, ha, hc, _⟩ := h.int h0 hlt
    obtain ⟨ad', hx', ha', hc', _⟩ := k.int h0 (by omega)
    refine ⟨trivial, V', View.Le.refl _, h0, hlt, ad, ha, _, hc, h0, by omega, ad', ha', _, hc', br_intro (fun hb => ⟨?_, rfl⟩) (fun hb => ⟨inI64 (by omega) (by omega), ⟨rfl, by omega, by omega, ?_⟩, by omega⟩)⟩
    · have hb : ¬ l[x.toNat] = m[x.toNat] := by simpa using hb
      rw [decide_eq_false]
      intro e; subst e; exact hb rfl
    · have hb : l[x.toNat] = m[x.toNat] := by simpa using hb
      rw [show (x + 1).toNat = x.toNat + 1 by omega, List.take_add_one, List.take_add_one, h2, List.getElem?_eq_getElem hx, List.getElem?_eq_getElem hx', hb]
  · have hge : ¬ x < s.n := by simpa using hge
    rw [List.take_of_length_le (by omega), List.take_of_length_le (by omega)] at h2
    exact ⟨by rw [h2]; simp, rfl⟩
theorem refEnts_ok {s t : Sl} {l m : List Ent} {V : View} (h : SlR V s l) (k : SlR V t m) : CallV Tryd.prog 55 ⟨[.slice s.a s.n s.c, .slice t.a t.n t.c]⟩ V fun r V' => r = .bool (decide (l = m)) ∧ V' = V := by
  refine f55_x ?_
  unfold f55_n
  have hn := h.n; have hlim := h.lim; have kn := k.n
  refine br_intro (fun hne => ⟨?_, rfl⟩) (fun heq => ?_)
  · have hne : ¬ (s.n : Int) = t.n := by simpa using hne
    rw [decide_eq_false]
    intro e; subst e; omega
  have heq : (s.n : Int) = t.n := by simpa using heq
  refine loop1 (k := .int .i64) (fun (x : Int) V' => V' = V ∧ 0 ≤ x ∧ x ≤ s.n ∧ l.take x.toNat = m.take x.toNat) (fun (x : Int) _ => s.n - x.toNat) ⟨rfl, by omega, by omega, rfl⟩ ?_
  rintro (x : Int) V' ⟨rfl, h0, h1, h2⟩
  refine br_intro (fun hlt => ?_) (fun hge => ?_)
  · have hlt : x < s.n := by simpa using hlt
    obtain ⟨ad, hx, ha, hc, _⟩ := h.ent h0 hlt
    obtain ⟨ad', hx', ha', hc', _⟩ := k.ent h0 (by omega)
    refine ⟨trivial, V', View.Le.refl _, h0, hlt, ad, ha, _, _, hc, h0, by omega, ad', ha', _, _, hc', trivial, ?_⟩
    rw [ent_eq]
    refine br_intro (fun hb => ⟨?_, rfl⟩) (fun hb => ⟨inI64 (by omega) (by omega), ⟨rfl, by omega, by omega, ?_⟩, by omega⟩)
    · have hb : ¬ l[x.toNat] = m[x.toNat] := by simpa using hb
      rw [decide_eq_false]
      intro e; subst e; exact hb rfl
    · have hb : l[x.toNat] = m[x.toNat] := by simpa using hb
      rw [show (x + 1).toNat = x.toNat + 1 by omega, List.take_add_one, List.take_add_one, h2, List.getElem?_eq_getElem hx, List.getElem?_eq_getElem hx', hb]
  · have hge : ¬ x < s.n := by simpa using hge
    rw [List.take_of_length_le (by omega), List.take_of_length_le (by omega)] at h2
    exact ⟨by rw [h2]; simp, rfl⟩
theorem refSameN_ok {a b : Nod} {s e s' e' : Sl} {V : View} (h : NodR V s e a) (k : NodR V s' e' b) : CallV Tryd.prog 28 ⟨[nodV a s e, nodV b s' e']⟩ V fun r V' => r = .bool (decide (a = b)) ∧ V' = V := by
  refine f28_x ?_
  unfold f28_n
  rw [nod_eq]
  refine fun _ _ => joinP_cut (fun q V' => q.1 = (decide (a.kind = b.kind) && decide (a.links = b.links) && decide (a.size = b.size) && (decide (a.seqs = b.seqs) && decide (a.ents = b.ents))) ∧ V' = V) (br_intro (fun hb => (refInts_ok h.seqs k.seqs).mono ?_) (fun hb => ⟨?_, rfl⟩)) ?_
  · have hb : (decide (a.kind = b.kind) && decide (a.links = b.links) && decide (a.size = b.size)) = true := by
      cases h1 : decide (a.kind = b.kind) <;> cases h2 : decide (a.links = b.links) <;> cases h3 : decide (a.size = b.size) <;> simp_all
    rw [hb]
    rintro r V1 ⟨rfl, rfl⟩
    refine ⟨_, rfl, br_intro (fun h1 => (refEnts_ok h.ents k.ents).mono ?_) (fun h1 => ⟨by rw [h1]; rfl, rfl⟩)⟩
    rintro r V2 ⟨rfl, rfl⟩
    exact ⟨_, rfl, by rw [h1]; rfl, rfl⟩
  · have hb : (decide (a.kind = b.kind) && decide (a.links = b.links) && decide (a.size = b.size)) = false := by
      cases h1 : decide (a.kind = b.kind) <;> cases h2 : decide (a.links = b.links) <;> cases h3 : decide (a.size = b.size) <;> simp_all
    rw [hb]; rfl
  · rintro ⟨q, ⟨⟩⟩ V1 ⟨h1, hV⟩
    simp only at h1 hV
    subst h1 hV
    exact ⟨rfl, rfl⟩
theorem refSameT_ok {s t : Sl} {l m : Tre} {V : View} (h : SlR V s l) (k : SlR V t m) : CallV Tryd.prog 19 ⟨[treV s, treV t]⟩ V fun r V' => r = .bool (decide (l = m)) ∧ V' = V := by
  refine f19_x ?_
  unfold f19_n
  have hn := h.n; have hlim := h.lim; have kn := k.n
  refine fun _ _ => br_intro (fun hne => ⟨?_, rfl⟩) (fun heq => ?_)
  · have hne : ¬ (s.n : Int) = t.n := by simpa using hne
    rw [decide_eq_false]
    intro e; subst e; omega
  have heq : (s.n : Int) = t.n := by simpa using heq
  refine loop1 (k := .int .i64) (fun (x : Int) V' => V' = V ∧ 0 ≤ x ∧ x ≤ s.n ∧ l.take x.toNat = m.take x.toNat) (fun (x : Int) _ => s.n - x.toNat) ⟨rfl, by omega, by omega, rfl⟩ ?_
  rintro (x : Int) V' ⟨rfl, h0, h1, h2⟩
  refine br_intro (fun hlt => ?_) (fun hge => ?_)
  · have hlt : x < s.n := by simpa using hlt
    obtain ⟨ad, sq, en, hx, ha, hc, hN⟩ := h.nod h0 hlt
    obtain ⟨ad', sq', en', hx', ha', hc', hN'⟩ := k.nod h0 (by omega)
    refine ⟨trivial, V', View.Le.refl _, h0, hlt, ad, ha, _, _, _, sq, en, hc, h0, by omega, ad', ha', _, _, _, sq', en', hc', (refSameN_ok hN hN').mono ?_⟩
    rintro r V1 ⟨rfl, rfl⟩
    refine ⟨_, rfl, br_intro (fun hb => ⟨?_, rfl⟩) (fun hb => ⟨inI64 (by omega) (by omega), ⟨rfl, by omega, by omega, ?_⟩, by omega⟩)⟩
    · have hb : ¬ l[x.toNat] = m[x.toNat] := of_decide_eq_false (not_t hb)
      rw [decide_eq_false]
      intro e; subst e; exact hb rfl
    · have hb : l[x.toNat] = m[x.toNat] := of_decide_eq_true (not_f hb)
      rw [show (x + 1).toNat = x.toNat + 1 by omega, List.take_add_one, List.take_add_one, h2, List.getElem?_eq_getElem hx, List.getElem?_eq_getElem hx', hb]
  · have hge : ¬ x < s.n := by simpa using hge
    rw [List.take_of_length_le (by omega), List.take_of_length_le (by omega)] at h2
    exact ⟨by rw [h2]; simp, rfl⟩
/-! ### sheets -/
theorem numL_small {n : Nat} (h : n < 128) : (numL n).length = 1 := by
  have : n / 128 = 0 := Nat.div_eq_of_lt h
  unfold numL
  rw [this]
  rfl
theorem numI_small {n : Int} (h0 : 0 ≤ n) (h : n < 128) : (numI n).length = 1 := by
  unfold numI
  exact numL_small (by unfold clampN; omega)
theorem numI_six (n : Int) : (numI n).length ≤ 6 := by
  unfold numI numL
  have := hi_len5 (clampN_le n)
  simp only [List.length_append, List.length_cons, List.length_nil]
  omega
theorem numsL_six : ∀ l : List Int, (numsL l).length ≤ 6 * l.length
  | [] => by simp [numsL]
  | n :: l => by
    have h1 := numsL_six l
    have h2 := numI_six n
    have e : numsL (n :: l) = numI n ++ numsL l := by simp [numsL]
    rw [e, List.length_append, List.length_cons]; omega
theorem encE_ten {x : Ent} (h8 : x.name.size ≤ 8) (h0 : 0 ≤ x.node) (h1 : x.node < 12) : (encE x).length ≤ 10 := by
  unfold encE textL
  have a := numI_small (n := ((bl x.name).length : Nat)) (by omega) (by rw [bl_len]; omega)
  have b := numI_small h0 (show x.node < 128 by omega)
  have c := bl_len x.name
  simp only [List.length_append]
  omega
theorem encEs_ten : ∀ {l : List Ent}, (∀ x ∈ l, x.name.size ≤ 8 ∧ 0 ≤ x.node ∧ x.node < 12) → (encEs l).length ≤ 10 * l.length
  | [], _ => by simp [encEs]
  | x :: l, h => by
    have h1 := encEs_ten (l := l) fun y hy => h y (by simp [hy])
    have hx := h x (by simp)
    have h2 := encE_ten hx.1 hx.2.1 hx.2.2
    have e : encEs (x :: l) = encE x ++ encEs l := by simp [encEs]
    rw [e, List.length_append, List.length_cons]; omega
theorem encN_short {n : Nod} (h : mayN n = true) : (encN n).length ≤ 102 := by
  have h1 := mayN_seqs h
  have h2 := mayL_len (mayN_ents h)
  have h3 := encEs_ten (l := n.ents) fun x hx => by
    have := mayL_node (mayN_ents h) hx
    have := mayB_size this.2.2
    omega
  have h4 := numsL_six n.seqs
  by_cases k1 : n.kind = 1
  · rw [encN_1 k1]
    have a : (numI 1).length = 1 := rfl
    have b := numI_six n.links
    have c := numI_six n.size
    simp only [List.length_append]; omega
  · by_cases k2 : n.kind = 2
    · rw [encN_2 k2]
      have a : (numI 2).length = 1 := rfl
      have b := numI_small (n := ((n.ents.length : Nat) : Int)) (by omega) (by omega)
      simp only [List.length_append]; omega
    · rw [encN_0 k1 k2]
      have := numI_six n.kind
      omega
theorem encT_short : ∀ {t : Tre}, (∀ n ∈ t, mayN n = true) → (encT t).length ≤ 102 * t.length
  | [], _ => by simp [encT]
  | n :: t, h => by
    have h1 := encT_short (t := t) fun y hy => h y (by simp [hy])
    have h2 := encN_short (h n (by simp))
    have e : encT (n :: t) = encN n ++ encT t := by simp [encT]
    rw [e, List.length_append, List.length_cons]; omega
theorem laidEnd {V V0 : View} {x : Sl} {l : List UInt8} {r : Nat} {C : Sl → View → Prop} (hb : Buf V x 5 1 (u8s l)) (hle : V0.Le (V.minus x)) (hr : rowAt V (some ⟨r, 0, none⟩) (1 * 1) (u8s [90])) (hl : l.length ≤ 4000)
    (hC : ∀ s V', s.n = l.length + 1 → V0.Le V' → C s V') : apV V 5 1 1 [.int .u8 0] x (.slice (some ⟨r, 0, none⟩) 1 1) C := by
  have hxn : x.n = l.length := by have := hb.len; rw [u8s_len, Nat.mul_one] at this; exact this.symm
  refine apV_buf rfl hb (src := u8s [90]) (m := 1) ⟨rfl, hr⟩ rfl (u8s_one _) (by show (x.n + 1) * 1 ≤ _; omega) (by show x.n + 1 ≤ _; omega) fun s V' _ hn hle' => ?_
  exact hC s V' (by rw [hn, hxn]) ((hle.trans hle').trans (View.minus_le _ _))
theorem row90 {V : View} {r : Nat} (h : V.see r = some (.cells ⟨putL [.int .u8 0] 0 [.int .u8 90]⟩ 5 (0, 0))) : rowAt V (some ⟨r, 0, none⟩) (1 * 1) (u8s [90]) := rowAt_new h rfl
end Go.Proofs.YtpalkdmngckcoaaDoor

/- DirCopies. -/
namespace Go.Proofs.YtpalkdmngckcoaaDoor
open Go
/-- A row that U does not see. -/
def RowS (W U : View) (s : Sl) (sz : Nat) : Prop := s.n = 0 ∨ ∃ r all e, s.a = some ⟨r, 0, none⟩ ∧ W.see r = some (.cells ⟨all⟩ e (0, 0)) ∧ s.n * sz ≤ all.length ∧ U.see r = none ∧ s.n ≤ 140737488355328
theorem RowS.lim {W U : View} {s : Sl} {sz : Nat} (h : RowS W U s sz) : s.n ≤ 140737488355328 := by
  rcases h with h | ⟨_, _, _, _, _, _, _, h⟩
  · omega
  · exact h
theorem see_none_le {U V : View} (h : U.Le V) {r : Nat} (hr : V.see r = none) : U.see r = none := by
  cases hs : U.see r with
  | none => rfl
  | some o => rw [h.see _ _ hs] at hr; cases hr
theorem RowS.mono {W W' U U' : View} {s : Sl} {sz : Nat} (hW : W.Le W') (hU : U'.Le U) (h : RowS W U s sz) : RowS W' U' s sz := by
  rcases h with h | ⟨r, all, e, h1, h2, h3, h4, h5⟩
  · exact .inl h
  · exact .inr ⟨r, all, e, h1, hW.see _ _ h2, h3, see_none_le hU h4, h5⟩
theorem minus_none {V : View} {x : Sl} {ad : Addr} (h : x.a = some ad) : (V.minus x).see ad.block = none := by
  unfold View.minus; rw [h, hide_see, if_pos rfl]
theorem Buf.rowS {V U : View} {x : Sl} {e : TypeId} {sz : Nat} {cs : List Value} (h : Buf V x e sz cs) (hle : U.Le (V.minus x)) : RowS V U x sz := by
  rcases h.own with ⟨_, hc⟩ | ⟨r, all, ha, hs, hl, _⟩
  · left; have := h.le; omega
  · right
    exact ⟨r, all, e, ha, hs, by rw [hl]; exact Nat.mul_le_mul_right _ h.le, see_none_le hle (minus_none ha), h.lim⟩
/-- A node of which only this is known: its rows are not U's. -/
structure SpN where
  u : View
instance : Rep SpN where
  sz := 5
  pos := by decide
  rep W vs x := ∃ (k l z : Int) (sq en : Sl), vs = [.int .i64 k, .int .i64 l, .int .i64 z, .slice sq.a sq.n sq.c, .slice en.a en.n en.c] ∧ RowS W x.u sq 1 ∧ RowS W x.u en 2
  len h := by obtain ⟨_, _, _, _, _, h, _⟩ := h; rw [h]; rfl
  one h := by obtain ⟨_, _, _, _, _, h, _⟩ := h; rw [h]; rfl
  mono hV h := let ⟨k, l, z, sq, en, h, a, b⟩ := h; ⟨k, l, z, sq, en, h, a.mono hV (View.Le.refl _), b.mono hV (View.Le.refl _)⟩
theorem cloneI2_ok {s : Sl} {l : List Int} {V : View} (h : SlR V s l) (hl : l.length ≤ 1000) : CallV Tryd.prog 62 ⟨[.slice s.a s.n s.c]⟩ V fun r V' => ∃ x : Sl, r = .slice x.a x.n x.c ∧ SlR V' x l ∧ RowS V' V x 1 ∧ V.Le V' := by
  refine f62_x ?_
  unfold f62_n
  refine br_intro (fun hnil => ?_) (fun _ r hr => ?_)
  · have ha : s.a = none := Option.isNone_iff_eq_none.1 hnil
    have hl0 : l = [] := by
      cases l with
      | nil => rfl
      | cons b l => obtain ⟨ad, vs, h1, _⟩ := h.get 0 (by simp); rw [ha] at h1; cases h1
    subst hl0
    exact ⟨⟨none, 0, 0⟩, rfl, SlR.nil _ _ _, .inl rfl, View.Le.refl V⟩
  · have hfr : V.see r = none := View.see_none_of_ge hr
    refine appRow (α := Int) (V0 := V) (l := []) (m := l) rfl (cs := []) ⟨rfl, Nat.le_refl _, Nat.zero_le _, .inr ⟨r, [], rfl, View.see_put_same _ _ _, rfl, rfl⟩⟩ rfl (h.mono ?_) ?_ (by simp; omega) (by simp; omega) ?_
    · exact put_le_hide hfr (View.Le.refl _)
    · exact put_le_hide hfr (View.Le.refl _)
    · intro z V' cs' hb hr' hle
      exact ⟨z, rfl, hb.slR hr' (View.minus_le _ _), hb.rowS hle, hle.trans (View.minus_le _ _)⟩
theorem cloneE2_ok {s : Sl} {l : List Ent} {V : View} (h : SlR V s l) (hl : l.length ≤ 1000) : CallV Tryd.prog 63 ⟨[.slice s.a s.n s.c]⟩ V fun r V' => ∃ x : Sl, r = .slice x.a x.n x.c ∧ SlR V' x l ∧ RowS V' V x 2 ∧ V.Le V' := by
  refine f63_x ?_
  unfold f63_n
  refine br_intro (fun hnil => ?_) (fun _ r hr => ?_)
  · have ha : s.a = none := Option.isNone_iff_eq_none.1 hnil
    have hl0 : l = [] := by
      cases l with
      | nil => rfl
      | cons b l => obtain ⟨ad, vs, h1, _⟩ := h.get 0 (by simp); rw [ha] at h1; cases h1
    subst hl0
    exact ⟨⟨none, 0, 0⟩, rfl, SlR.nil _ _ _, .inl rfl, View.Le.refl V⟩
  · have hfr : V.see r = none := View.see_none_of_ge hr
    refine appRow (α := Ent) (V0 := V) (l := []) (m := l) rfl (cs := []) ⟨rfl, Nat.le_refl _, Nat.zero_le _, .inr ⟨r, [], rfl, View.see_put_same _ _ _, rfl, rfl⟩⟩ rfl (h.mono ?_) ?_ (by simp; omega) (by simp; omega) ?_
    · exact put_le_hide hfr (View.Le.refl _)
    · exact put_le_hide hfr (View.Le.refl _)
    · intro z V' cs' hb hr' hle
      exact ⟨z, rfl, hb.slR hr' (View.minus_le _ _), hb.rowS hle, hle.trans (View.minus_le _ _)⟩
theorem copyN2_ok {n : Nod} {s e : Sl} {V : View} (h : NodR V s e n) (hl : LightN n) : CallV Tryd.prog 41 ⟨[nodV n s e]⟩ V fun r V' => ∃ s' e' : Sl, r = nodV n s' e' ∧ NodR V' s' e' n ∧ RowS V' V s' 1 ∧ RowS V' V e' 2 ∧ V.Le V' := by
  refine f41_x ?_
  unfold f41_n
  refine fun _ _ => ⟨trivial, V, View.Le.refl _, (cloneI2_ok h.seqs hl.1).mono ?_⟩
  rintro r V1 ⟨x, rfl, hx, hxs, hV1⟩
  refine ⟨x, rfl, hV1, (cloneE2_ok (h.ents.mono hV1) hl.2).mono ?_⟩
  rintro r V2 ⟨y, rfl, hy, hys, hV2⟩
  exact ⟨y, rfl, x, y, rfl, ⟨h.kind, h.links, h.size, hx.mono hV2, hy⟩, hxs.mono hV2 (View.Le.refl _), hys.mono (View.Le.refl _) hV1, hV1.trans hV2⟩
/-- A copy none of whose rows is U's; what it holds. -/
structure Cop (U V : View) (x : Sl) (t : Tre) (cs : List Value) : Prop where
  buf : Buf V x 31 5 cs
  rep : repL (V.minus x) cs t
  sp : repL (V.minus x) cs (List.replicate t.length (SpN.mk U))
  le : U.Le (V.minus x)
theorem copyT2_ok {s : Sl} {t : Tre} {V : View} (h : SlR V s t) (hl : t.length ≤ 1000 ∧ ∀ n ∈ t, LightN n) : CallV Tryd.prog 18 ⟨[treV s]⟩ V fun r V' => ∃ (x : Sl) (cs : List Value), r = treV x ∧ Cop V V' x t cs := by
  refine f18_x ?_
  unfold f18_n
  have hn := h.n
  refine fun _ _ _ => loop2 (k := .int .i64) (l := .sl) (fun (j : Int) (x : Sl) V' => ∃ (i : Nat) (cs : List Value), j = i ∧ i ≤ t.length ∧ Cop V V' x (t.take i) cs) (fun (j : Int) _ _ => t.length - j.toNat) ⟨0, [], rfl, by omega, Buf.nil _ _ _, rfl, rfl, View.Le.refl _⟩ ?_
  rintro (j : Int) (x : Sl) V1 ⟨i, cs, rfl, hi, ⟨hb, hr, hsp, hle⟩⟩
  have hV1 := hle.trans (View.minus_le _ _)
  refine br_intro (fun hlt => ?_) (fun hge => ?_)
  · have hlt : i < t.length := by have := of_decide_eq_true hlt; omega
    obtain ⟨ad, sq, en, ha, hc, hN⟩ := (h.mono hle).nodN hlt
    have hmem : t.getD i default ∈ t := by rw [getD_at hlt]; exact List.getElem_mem _
    have hx := hb.n_eq (α := Nod) hr
    rw [List.length_take] at hx
    have hl1 := hl.1
    refine ⟨by omega, by omega, ad, ha, _, _, _, sq, en, cellsAt_mono (View.minus_le _ _) hc, fun _ => ⟨trivial, V, hV1, ((copyN2_ok hN (hl.2 _ hmem)).besideB hb).mono ?_⟩⟩
    rintro r V2 ⟨U, ⟨s', e', rfl, hN', hs', he', hU⟩, hU2, hb2⟩
    have hstep := hU.trans hU2
    have hle2 := hle.trans hstep
    have hV2 := hle2.trans (View.minus_le _ _)
    refine ⟨_, _, _, s', e', rfl, hV2, fun r hr1 => ?_⟩
    have hfr := View.see_none_of_ge hr1
    refine ⟨hV2.trans (View.put_le hfr), ?_⟩
    refine apV_buf rfl (hb2.put hfr) (src := [.int .i64 (t.getD i default).kind, .int .i64 (t.getD i default).links, .int .i64 (t.getD i default).size, .slice s'.a s'.n s'.c, .slice e'.a e'.n e'.c]) (m := 1) ⟨rfl, rowAt_new (View.see_put_same _ _ _) rfl⟩ rfl rfl (by show (x.n + 1) * 72 ≤ _; omega) (by show x.n + 1 ≤ _; omega) fun z V3 hb3 _ hle3 => ?_
    have h23 : (V2.minus x).Le (V3.minus z) := (put_minus_le hfr).trans hle3
    refine ⟨inI64 (by omega) (by omega), ⟨i + 1, _, by omega, by omega, hb3, ?_, ?_, hle2.trans h23⟩, by omega⟩
    · rw [List.take_add_one, List.getElem?_eq_getElem hlt, ← getD_at hlt]
      exact ((hr.mono hstep).mono h23).snoc (hN'.mono (hU2.trans h23)).rep
    · have e1 : List.replicate (t.take (i + 1)).length (SpN.mk V) = List.replicate (t.take i).length (SpN.mk V) ++ [SpN.mk V] := by
        rw [← List.replicate_succ', List.length_take, List.length_take]; congr 1; omega
      rw [e1]
      exact ((hsp.mono hstep).mono h23).snoc ⟨_, _, _, s', e', rfl, hs'.mono (hU2.trans h23) hle, he'.mono (hU2.trans h23) hle⟩
  · have hge : i = t.length := by have := of_decide_eq_false hge; omega
    subst hge
    rw [List.take_length] at hr hsp
    exact ⟨x, cs, rfl, hb, hr, hsp, hle⟩
theorem light_lightN {t : Tre} (h : LightT t) : t.length ≤ 1000 ∧ ∀ n ∈ t, LightN n := by
  refine ⟨by have := h.1; omega, fun n hn => ?_⟩
  have := h.2 n hn
  exact ⟨by omega, by omega⟩
/-- Views of one shape. -/
def Shp (W W' : View) : Prop := ∀ r all e, W.see r = some (.cells ⟨all⟩ e (0, 0)) → ∃ all', W'.see r = some (.cells ⟨all'⟩ e (0, 0)) ∧ all'.length = all.length
theorem RowS.shp {W W' U : View} {s : Sl} {sz : Nat} (hS : Shp W W') (h : RowS W U s sz) : RowS W' U s sz := by
  rcases h with h | ⟨r, all, e, h1, h2, h3, h4, h7⟩
  · exact .inl h
  · obtain ⟨all', h5, h6⟩ := hS r all e h2
    exact .inr ⟨r, all', e, h1, h5, by omega, h4, h7⟩
theorem shp_rep {W W' : View} (hS : Shp W W') : ∀ {cs : List Value} {l : List SpN}, repL W cs l → repL W' cs l
  | _, [], h => h
  | _, _ :: _, ⟨vs, us, e, ⟨k, l, z, sq, en, h1, h2, h3⟩, h⟩ => ⟨vs, us, e, ⟨k, l, z, sq, en, h1, h2.shp hS, h3.shp hS⟩, shp_rep hS h⟩
/-- What is spoilt. -/
structure Spo (U V : View) (x : Sl) (m : Nat) (cs : List Value) : Prop where
  buf : Buf V x 31 5 cs
  sp : repL (V.minus x) cs (List.replicate m (SpN.mk U))
  le : U.Le (V.minus x)
theorem Spo.write {U V : View} {x : Sl} {m : Nat} {cs : List Value} (h : Spo U V x m cs) {s : Sl} {sz : Nat} (hs : RowS (V.minus x) U s sz) {off : Nat} (ho : off < s.n * sz) (v : Value) :
    ∃ ad, s.a = some ad ∧ canSet V (ad.add off) 1 ∧ Spo U (V.sets (ad.add off) [v]) x m cs := by
  rcases hs with hs | ⟨r, all, e, h1, h2, h3, h4, _⟩
  · rw [hs] at ho; omega
  · have hsee := (View.minus_le V x).see _ _ h2
    have e0 : (⟨r, 0, none⟩ : Addr).add off = ⟨r, off, none⟩ := by rw [addr0_add]; simp
    have hne : ∀ ad, x.a = some ad → ad.block ≠ r := fun ad ha e => by
      have := minus_none (V := V) ha
      rw [e, h2] at this; cases this
    refine ⟨_, h1, ?_, ?_⟩
    · rw [e0]; exact canSet_of hsee (by omega)
    · rw [e0, sets_see hsee]
      have hput : ∀ i, i ≠ r → (V.put r (.cells ⟨putL all off [v]⟩ e (0, 0))).see i = V.see i := fun i hi => View.see_put_ne V _ hi
      have hms : ∀ i, i ≠ r → ((V.put r (.cells ⟨putL all off [v]⟩ e (0, 0))).minus x).see i = (V.minus x).see i := fun i hi => by
        unfold View.minus
        split
        · exact hput i hi
        · simp only [hide_see, hput i hi]
      have hmr : ((V.put r (.cells ⟨putL all off [v]⟩ e (0, 0))).minus x).see r = some (.cells ⟨putL all off [v]⟩ e (0, 0)) := by
        unfold View.minus
        split
        · exact View.see_put_same _ _ _
        · rename_i ad ha
          rw [hide_see, if_neg (fun e => hne ad ha e.symm)]; exact View.see_put_same _ _ _
      refine ⟨⟨h.buf.len, h.buf.le, h.buf.lim, ?_⟩, shp_rep ?_ h.sp, ⟨?_, ?_, ?_⟩⟩
      · rcases h.buf.own with h5 | ⟨q, al, h5, h6, h7⟩
        · exact .inl h5
        · exact .inr ⟨q, al, h5, by rw [hput q (hne _ h5)]; exact h6, h7⟩
      · intro i al e' hi
        by_cases hir : i = r
        · subst hir
          rw [h2] at hi
          cases hi
          exact ⟨_, hmr, by show (all.set off v).length = _; rw [List.length_set]⟩
        · exact ⟨al, by rw [hms i hir]; exact hi, rfl⟩
      · have h7 := h.le.size
        have h8 : (V.minus x).size = V.size := by unfold View.minus; split <;> rfl
        have h9 : ((V.put r (.cells ⟨putL all off [v]⟩ e (0, 0))).minus x).size = max V.size (r + 1) := by unfold View.minus; split <;> rfl
        omega
      · intro i o hi
        have hir : i ≠ r := fun e => by rw [e, h4] at hi; cases hi
        rw [hms i hir]; exact h.le.see _ _ hi
      · have h8 : (V.minus x).out = V.out := by unfold View.minus; split <;> rfl
        have h9 : ((V.put r (.cells ⟨putL all off [v]⟩ e (0, 0))).minus x).out = V.out := by unfold View.minus; split <;> rfl
        rw [h9, ← h8]; exact h.le.out
theorem Spo.node {U V : View} {x : Sl} {m : Nat} {cs : List Value} (h : Spo U V x m cs) {i : Nat} (hi : i < m) :
    ∃ ad sq en, x.a = some ad ∧ cs[i * 5 + 3]? = some (.slice sq.a sq.n sq.c) ∧ cs[i * 5 + 4]? = some (.slice en.a en.n en.c) ∧ RowS (V.minus x) U sq 1 ∧ RowS (V.minus x) U en 2 := by
  obtain ⟨vs, ⟨k, l, z, sq, en, rfl, h1, h2⟩, hg⟩ := h.sp.get i (by simpa using hi)
  rw [List.getElem_replicate] at h1 h2
  have hn := h.buf.n_eq (α := SpN) h.sp
  rw [List.length_replicate] at hn
  rcases h.buf.own with ⟨_, h5⟩ | ⟨q, al, h5, _⟩
  · have := h.buf.le; omega
  · exact ⟨_, sq, en, h5, hg 3 _ rfl, hg 4 _ rfl, h1, h2⟩
theorem Spo.cell {U V : View} {x : Sl} {m : Nat} {cs : List Value} (h : Spo U V x m cs) {ad : Addr} (ha : x.a = some ad) {i j : Nat} {v : Value} (hv : cs[i * 5 + j]? = some v) : V.cell? ((ad.add (i * 5)).add j) = some v := by
  have := h.buf.row
  rw [ha] at this
  rw [Addr.add_add]
  exact this.2 _ _ hv
theorem Spo.rows {U V' : View} {x : Sl} {m : Nat} {cs : List Value} (h : Spo U V' x m cs) {i : Nat} (hi : i < m) {s : Sl} {j : Nat} (hj : j = 3 ∨ j = 4) (hv : cs[i * 5 + j]? = some (.slice s.a s.n s.c)) : RowS (V'.minus x) U s (if j = 3 then 1 else 2) := by
  obtain ⟨ad, sq, en, _, h3, h4, h5, h6⟩ := h.node hi
  rcases hj with rfl | rfl
  · rw [h3] at hv
    simp only [Option.some.injEq, Value.slice.injEq] at hv
    obtain ⟨e1, e2, e3⟩ := hv
    have : sq = s := by cases sq; cases s; simp_all
    rw [if_pos rfl, ← this]; exact h5
  · rw [h4] at hv
    simp only [Option.some.injEq, Value.slice.injEq] at hv
    obtain ⟨e1, e2, e3⟩ := hv
    have : en = s := by cases en; cases s; simp_all
    rw [if_neg (by decide), ← this]; exact h6
theorem Cop.spo {U V : View} {x : Sl} {t : Tre} {cs : List Value} (h : Cop U V x t cs) : Spo U V x t.length cs := ⟨h.buf, h.sp, h.le⟩
theorem Cop.slR {U V : View} {x : Sl} {t : Tre} {cs : List Value} (h : Cop U V x t cs) : SlR V x t := h.buf.slR h.rep (View.minus_le _ _)
theorem Cop.vle {U V : View} {x : Sl} {t : Tre} {cs : List Value} (h : Cop U V x t cs) : U.Le V := h.le.trans (View.minus_le _ _)
theorem copyJ {s : Sl} {t : Tre} {V : View} {G : Sl → View → Prop} (h : SlR V s t) (hl : t.length ≤ 1000 ∧ ∀ n ∈ t, LightN n) (hG : ∀ x cs V', Cop V V' x t cs → G x V') :
    CallV Tryd.prog 18 ⟨[treV s]⟩ V fun r V' => ∃ x : Sl, r = treV x ∧ G x V' := (copyT2_ok h hl).mono fun _ V' ⟨x, cs, hr, hC⟩ => ⟨x, hr, hG x cs V' hC⟩
/-- Another copy behind it: it lies apart. -/
theorem refCopyJ {s : Sl} {t : Tre} {V V2 : View} {x : Sl} {cs : List Value} {G : Sl → View → Prop} (h : SlR V s t) (hl : t.length ≤ 1000 ∧ ∀ n ∈ t, LightN n) (hC : Cop V V2 x t cs) (hG : ∀ y U V', Cop U V' x t cs → SlR U y t → V.Le U → G y V') :
    CallV Tryd.prog 17 ⟨[treV s]⟩ V2 fun r V' => ∃ y : Sl, r = treV y ∧ G y V' := by
  have hx : ∀ ad, x.a = some ad → V.see ad.block = none := fun ad ha => see_none_le hC.le (minus_none ha)
  refine (CallV.frameG (K := fun r V' => ∃ y : Sl, r = treV y ∧ OwnT V V' y t) hC.vle ((refCopyT_ok h hl).mono fun r V' ⟨y, h1, h2⟩ => ⟨⟨y, h1, h2⟩, h2.le⟩)).mono ?_
  rintro r V3 ⟨U, ⟨y, rfl, hO⟩, hle, hU, h23, hno⟩
  have hsz := minus_mono h23 x
  have conv : ∀ {m : Nat} {cs : List Value}, repL (V2.minus x) cs (List.replicate m (SpN.mk V)) → repL (V3.minus x) cs (List.replicate m (SpN.mk U)) := by
    have row : ∀ {s : Sl} {sz : Nat}, RowS (V2.minus x) V s sz → RowS (V3.minus x) U s sz := by
      intro s sz hs
      rcases hs with hs | ⟨r, all, e, h1, h2, h3, h4, h5⟩
      · exact .inl hs
      · exact .inr ⟨r, all, e, h1, hsz.see _ _ h2, h3, hno r _ h4 ((View.minus_le _ _).see _ _ h2), h5⟩
    intro m
    induction m with
    | zero => intro cs h; exact h
    | succ m ih =>
      rintro cs ⟨vs, us, e, ⟨k, l, z, sq, en, h1, h2, h3⟩, h⟩
      exact ⟨vs, us, e, ⟨k, l, z, sq, en, h1, row h2, row h3⟩, ih h⟩
  refine ⟨y, rfl, hG y U V3 ⟨hC.buf.mono h23, hC.rep.mono hsz, conv hC.sp, ?_⟩ hO.slR hle⟩
  rcases hC.buf.own with ⟨ha, _⟩ | ⟨q, al, ha, hs, _⟩
  · unfold View.minus; rw [ha]; exact hU
  · have hq := hno q _ (hx _ ha) hs
    unfold View.minus
    rw [ha]
    exact ⟨hU.size, fun i o hi => by
      have hne : i ≠ q := fun e => by rw [e, hq] at hi; cases hi
      rw [hide_see, if_neg hne]; exact hU.see _ _ hi, hU.out⟩
set_option maxRecDepth 100000 in
theorem dirCopies_ok {s : Sl} {t : Tre} {a : Int} {V : View} (h : SlR V s t) (hin : inI .i64 a) (hg : Glo V) : CallV Tryd.prog 6 ⟨[treV s, .int .i64 a]⟩ V fun r V' => r = .bool true ∧ V.Le V' := by
  refine f6_x ?_
  unfold f6_n
  refine fun _ => (light15s_ok h).mono ?_
  rintro r V1 ⟨x, rfl, x0, x1, x2, x3, rfl⟩
  refine ⟨x, rfl, br_intro (fun _ => awake15J (View.Le.refl _) hg fun V' hV => ⟨rfl, hV⟩) (fun hb => ?_)⟩
  have hL := x2 (by have := of_decide_eq_false hb; omega)
  have hl := light_lightN hL
  have h40 := hL.1
  have hn := h.n
  obtain ⟨CUT, hCUT⟩ : ∃ C : Ty [K.sl, K.sl] → View → Prop, ∀ q V', C q V' ↔ ∃ U cs, Cop U V' q.1 t cs ∧ SlR U q.2.1 t ∧ V1.Le U := ⟨_, fun _ _ => Iff.rfl⟩
  refine joinP_cut CUT ⟨trivial, V1, View.Le.refl _, ?_⟩ ?_
  · repeat' (first
      | (intro (_ : Nat))
      | (refine refCopyJ h hl hC fun y U V3 hC' hs hU => ?_)
      | (refine copyJ h hl fun x cs V2 hC => ?_)
      | exact (hCUT _ _).2 ⟨U, cs, hC', hs, hU⟩
      | exact hU.trans hC'.vle
      | exact hC.vle
      | exact View.Le.refl _
      | apply And.intro)
  rintro ⟨c, y, ⟨⟩⟩ V2 hcut
  obtain ⟨U, cs, hC, hy, hU⟩ := (hCUT _ _).1 hcut
  simp only at hC hy
  dsimp only [unc]
  have q2 := hU.trans hC.vle
  refine fun _ _ => (refSameT_ok hC.slR (h.mono q2)).mono ?_
  rintro r V3 ⟨rfl, rfl⟩
  refine ⟨_, rfl, br_intro (fun hb => absurd hb (by simp)) (fun _ => ?_)⟩
  have hcn := hC.slR.n
  refine loop1 (k := .int .i64) (fun (j : Int) V' => ∃ (i : Nat) (cs : List Value), j = i ∧ i ≤ t.length ∧ Spo U V' c t.length cs) (fun (j : Int) _ => t.length - j.toNat) ⟨0, cs, rfl, by omega, hC.spo⟩ ?_
  rintro (j : Int) V4 ⟨i, cs, rfl, hi, hS⟩
  refine br_intro (fun hlt => ?_) (fun hge => ?_)
  · have hlt : i < t.length := by have := of_decide_eq_true hlt; omega
    obtain ⟨ad, sq, en, ha, h3, h4, hsq, hen⟩ := hS.node hlt
    refine ⟨by omega, by omega, ad, ha, sq, hS.cell ha h3, ?_⟩
    refine loop1 (k := .int .i64) (fun (j : Int) V' => ∃ k : Nat, j = k ∧ k ≤ sq.n ∧ Spo U V' c t.length cs) (fun (j : Int) _ => sq.n - j.toNat) ⟨0, rfl, by omega, hS⟩ ?_
    rintro (j : Int) V5 ⟨k, rfl, hk, hS5⟩
    refine br_intro (fun hlt2 => ?_) (fun hge2 => ?_)
    · have hk : k < sq.n := by have := of_decide_eq_true hlt2; omega
      have hr := hS5.rows (s := sq) hlt (.inl rfl) h3
      rw [if_pos rfl] at hr
      obtain ⟨ad2, ha2, hcs, hS6⟩ := hS5.write hr (off := k * 1) (by omega) (.int .i64 a)
      exact ⟨by omega, by omega, ad, ha, sq, hS5.cell ha h3, by omega, by omega, ad2, ha2, hcs, inI64 (by have := hsq.lim; omega) (by have := hsq.lim; omega), ⟨k + 1, by omega, by omega, hS6⟩, by omega⟩
    · refine ⟨by omega, by omega, ad, ha, en, hS5.cell ha h4, ?_⟩
      refine loop1 (k := .int .i64) (fun (j : Int) V' => ∃ k : Nat, j = k ∧ k ≤ en.n ∧ Spo U V' c t.length cs) (fun (j : Int) _ => en.n - j.toNat) ⟨0, rfl, by omega, hS5⟩ ?_
      rintro (j : Int) V6 ⟨k, rfl, hk, hS6⟩
      refine br_intro (fun hlt3 => ?_) (fun hge3 => ?_)
      · have hk : k < en.n := by have := of_decide_eq_true hlt3; omega
        have hr := hS6.rows (s := en) hlt (.inr rfl) h4
        rw [if_neg (by decide)] at hr
        obtain ⟨ad2, ha2, hcs, hS7⟩ := hS6.write hr (off := k * 2 + 1) (by omega) (.int .i64 a)
        rw [← Addr.add_add] at hcs hS7
        exact ⟨by omega, by omega, ad, ha, en, hS6.cell ha h4, by omega, by omega, ad2, ha2, hcs, inI64 (by have := hen.lim; omega) (by have := hen.lim; omega), ⟨k + 1, by omega, by omega, hS7⟩, by omega⟩
      · have hset := hS6.buf.setC (α := SpN) hS6.sp (i := i) (by simpa using hlt)
        obtain ⟨ad3, vs, ha3, _, ⟨k3, l3, z3, sq3, en3, rfl, g1, g2⟩, hset⟩ := hset
        rw [List.getElem_replicate] at g1 g2
        obtain ⟨c1, c2, c3, c4⟩ := hset 2 (.int .i64 a) (SpN.mk U) (by decide) ⟨k3, l3, a, sq3, en3, rfl, g1, g2⟩
        refine ⟨by omega, by omega, ad3, ha3, c1, inI64 (by omega) (by omega), ⟨i + 1, _, by omega, by omega, ⟨c2, ?_, hS6.le.trans c4⟩⟩, by omega⟩
        rw [List.set_replicate_self] at c3
        exact c3
  · refine joinP_cut (fun g V' => g.1 = true ∧ V1.Le V') ((refSameT_ok (h.mono (hU.trans (hS.le.trans (View.minus_le _ _)))) (hy.mono (hS.le.trans (View.minus_le _ _)))).mono ?_) ?_
    · rintro r V5 ⟨rfl, rfl⟩
      have q5 := hU.trans (hS.le.trans (View.minus_le _ _))
      exact ⟨_, rfl, br_intro (fun _ => awake15J q5 (hg.mono q5) fun V' hV => ⟨rfl, hV⟩) (fun hf => absurd hf (by simp))⟩
    · rintro ⟨g, ⟨⟩⟩ V5 ⟨hg1, hV⟩
      simp only at hg1
      subst hg1
      exact ⟨rfl, hV⟩
end Go.Proofs.YtpalkdmngckcoaaDoor

/- How rows and trees come in. -/
namespace Go.Proofs.YtpalkdmngckcoaaDoor
open Go Go.RowKit Go.ChangeShapes Go.WideShapes
section
variable {H : Type} {enc : TypeId × Value → H} {P : Program} {w : World} {base b0 : Nat} {sp : Nat → Bool} {held : Bool} {r : Go.Reach} {v : Value} {d : DataW H} {ps : List MemPlace}
theorem in_slice {α : Type} [Rep α] {t e : TypeId} (ht : P.underlying t = some (.slice e)) (hT : TrodRep P (List α) t) (hv : Value.okWide P w r b0 t v) (hd : DataW.Trod enc P w base sp held t v d ps) :
    ∃ (s : Sl) (l : List α), v = .slice s.a s.n s.c ∧ SlR (View.all w) s l := by
  obtain ⟨a, len, cap, rfl⟩ := okWide_slice ht hv
  obtain ⟨fuel, hf⟩ := hd
  obtain ⟨l, s, he, hs⟩ := hT.of hf
  simp [Value.cells] at he
  exact ⟨s, l, by rw [he.1, he.2.1, he.2.2], hs⟩
theorem in_tree {α : Type} [Rep α] {t te : TypeId} {fs : Array Field} (ht : P.underlying t = some (.struct fs)) (h0 : fieldX P t 0 = some (0, te)) (hc : P.cellsOf t = 1) (hce : P.cellsOf te = 1) (hT : TrodRep P (List α) te) (hv : Value.okWide P w r b0 t v) (hd : DataW.Trod enc P w base sp held t v d ps) :
    ∃ (s : Sl) (l : List α), v = .agg ⟨[.slice s.a s.n s.c]⟩ ∧ SlR (View.all w) s l := by
  obtain ⟨cs, rfl, hsz⟩ := okWide_struct ht hv
  obtain ⟨fuel, hf⟩ := hd
  obtain ⟨hl, n, y, g⟩ := trod_field h0 hf
  obtain ⟨cs⟩ := cs
  rw [hc] at hsz hl
  match cs, hsz with
  | [c], _ =>
    rw [hce] at g
    obtain ⟨l, s, he, hs⟩ := hT.of g
    simp [Value.cells] at he
    exact ⟨s, l, by rw [he], hs⟩
end
end Go.Proofs.YtpalkdmngckcoaaDoor
