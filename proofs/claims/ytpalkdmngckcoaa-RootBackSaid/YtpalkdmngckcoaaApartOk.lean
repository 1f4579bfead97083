/- The contract of dir.apart. -/
import Derived.Test.YtpalkdmngckcoaaNamesOk
import Derived.Test.YtpalkdmngckcoaaMapLaw
namespace Go.Proofs.Ytpalkdmngckcoaa
open Go
/-- A map that counts. -/
def CountM (V : View) (r : Nat) (l : List Int) : Prop := ∃ es cl, V.see r = some (.map es cl) ∧ IntK es.toList ∧ ∀ k, (vlk k es.toList).getD (.int .i64 0) = .int .i64 (l.count k)
theorem count_snoc (l : List Int) (x k : Int) : (l ++ [x]).count k = l.count k + if k = x then 1 else 0 := by
  rw [List.count_append]
  by_cases e : k = x
  · subst e; simp
  · rw [if_neg e]; simp [Ne.symm e]
theorem CountM.bump {V : View} {r : Nat} {l : List Int} (h : CountM V r l) (x : Int) : ∃ es cl f, V.see r = some (.map es cl) ∧ mfind (.int .i64 x) es.toList 0 = some f ∧ found (.int .i64 0) f = .int .i64 (l.count x) ∧ CountM (V.put r (mput es cl f (.int .i64 x) (.int .i64 ((l.count x : Int) + 1)))) r (l ++ [x]) := by
  obtain ⟨es, cl, hs, hk, hv⟩ := h
  obtain ⟨f, hf, hfd, es', cl', hm, hk', hv'⟩ := mput_int (cl := cl) (k := x) (v := .int .i64 ((l.count x : Int) + 1)) hk
  refine ⟨es, cl, f, hs, hf, by rw [hfd, hv], es', cl', by rw [View.see_put_same, hm], hk', fun k => ?_⟩
  rw [hv', count_snoc]
  by_cases e : k = x
  · rw [if_pos e, if_pos e, e]; rfl
  · rw [if_neg e, if_neg e, hv]; simp
theorem CountM.look {V : View} {r : Nat} {l : List Int} (h : CountM V r l) (x : Int) : ∃ es cl f, V.see r = some (.map es cl) ∧ mfind (.int .i64 x) es.toList 0 = some f ∧ found (.int .i64 0) f = .int .i64 (l.count x) := by
  obtain ⟨es, cl, f, h1, h2, h3, _⟩ := h.bump x
  exact ⟨es, cl, f, h1, h2, h3⟩
theorem allS_take {t : Tre} {i : Nat} (h : i < t.length) : allS (t.take (i + 1)) = allS (t.take i) ++ (t.getD i default).seqs := by
  unfold allS
  rw [List.take_add_one, List.getElem?_eq_getElem h, List.flatMap_append, getD_at h]
  simp
theorem allS_len : ∀ {t : Tre} {m : Nat}, (∀ n ∈ t, n.seqs.length ≤ m) → (allS t).length ≤ m * t.length
  | [], _, _ => by simp [allS]
  | n :: t, m, h => by
    have h1 := allS_len (t := t) (m := m) fun k hk => h k (by simp [hk])
    have h2 := h n (by simp)
    have e : allS (n :: t) = n.seqs ++ allS t := by simp [allS]
    rw [e, List.length_append, List.length_cons, Nat.mul_add]
    omega
theorem allS_prefix (t : Tre) (i : Nat) : allS (t.take i) <+: allS t := by
  have : allS t = allS (t.take i) ++ allS (t.drop i) := by unfold allS; rw [← List.flatMap_append, List.take_append_drop]
  rw [this]; exact List.prefix_append _ _
theorem apart_prefix {l m : List Int} (h : l <+: m) (ha : apartL l = false) : apartL m = false := by
  unfold apartL at *
  rw [decide_eq_false_iff_not] at *
  exact fun hm => ha (hm.sublist (h.sublist.filter _))
theorem apart_snoc {l : List Int} {x : Int} (h : apartL l = true) : apartL (l ++ [x]) = !(!decide (x = 0) && decide (1 < (l ++ [x]).count x)) := by
  unfold apartL at *
  have h := of_decide_eq_true h
  rw [List.filter_append, count_snoc, if_pos rfl]
  by_cases hx : x = 0
  · subst hx; simpa using h
  · have e1 : [x].filter (fun s => decide (s ≠ 0)) = [x] := by simp [hx]
    rw [e1]
    by_cases hm : x ∈ l
    · have hc := List.count_pos_iff.2 hm
      have : ¬ (l.filter (fun s => decide (s ≠ 0)) ++ [x]).Nodup := by
        rw [List.nodup_append]
        intro hn
        exact hn.2.2 x (by simp [hm, hx]) x (by simp) rfl
      rw [decide_eq_false this, decide_eq_true (show 1 < l.count x + 1 by omega)]
      simp [hx]
    · have hc := List.count_eq_zero.2 hm
      have : (l.filter (fun s => decide (s ≠ 0)) ++ [x]).Nodup := by
        rw [List.nodup_append]
        refine ⟨h, by simp, fun a ha b hb hab => ?_⟩
        have hb : b = x := by simpa using hb
        rw [hab, hb] at ha
        exact hm ((List.mem_filter.1 ha).1)
      rw [decide_eq_true this, hc]
      simp
theorem apart_ok {s : Sl} {t : Tre} {V : View} (h : SlR V s t) (h12 : t.length = 12) (h5 : ∀ n ∈ t, n.seqs.length ≤ 5) : CallV Try.prog 38 ⟨[treV s]⟩ V fun r V' => r = .bool (apartL (allS t)) ∧ V.Le V' := by
  refine f38_x ?_
  unfold f38_n
  have hn : s.n = 12 := by rw [h.n, h12]
  rw [hn]
  refine fun _ r hr => ?_
  have hfr : V.see r = none := View.see_none_of_ge hr
  refine loop1 (k := .int .i64) (fun (x : Int) V' => ∃ i : Nat, x = i ∧ i ≤ 12 ∧ CountM V' r (allS (t.take i)) ∧ apartL (allS (t.take i)) = true ∧ V.Le (V'.hide r)) (fun (x : Int) _ => 12 - x.toNat) ⟨0, rfl, by omega, ⟨_, _, View.see_put_same _ _ _, fun e he => (by cases he), fun k => rfl⟩, rfl, put_le_hide hfr (View.Le.refl _)⟩ ?_
  rintro (x : Int) V1 ⟨i, rfl, hi, hs1, hp1, hV1⟩
  have hV1' : V.Le V1 := hV1.trans (View.hide_le _ _)
  refine br_intro (fun hlt => ?_) (fun hge => ?_)
  · have hlt : i < 12 := by have := of_decide_eq_true hlt; omega
    obtain ⟨ad, sq, en, ha, hc, hN⟩ := h.nodN (i := i) (by omega)
    have hmem : t.getD i default ∈ t := by rw [getD_at (by omega)]; exact List.getElem_mem _
    have hle := h5 _ hmem
    have htk : (allS (t.take i)).length ≤ 5 * 12 := Nat.le_trans (allS_len fun n hn => h5 n (List.mem_of_mem_take hn)) (Nat.mul_le_mul_left _ (by simp; omega))
    have hpre := allS_prefix t (i + 1)
    rw [allS_take (by omega)] at hpre
    refine ⟨by omega, by omega, ad, ha, _, _, _, sq, en, cellsAt_mono hV1' hc, fun _ => ?_⟩
    generalize hnd : t.getD i default = nd at *
    have hsn := hN.seqs.n
    refine loop1 (k := .int .i64) (fun (x : Int) V' => ∃ k : Nat, x = k ∧ k ≤ nd.seqs.length ∧ CountM V' r (allS (t.take i) ++ nd.seqs.take k) ∧ apartL (allS (t.take i) ++ nd.seqs.take k) = true ∧ V.Le (V'.hide r)) (fun (x : Int) _ => nd.seqs.length - x.toNat) ⟨0, rfl, by omega, by simpa using hs1, by simpa using hp1, hV1⟩ ?_
    rintro (x : Int) V2 ⟨k, rfl, hk, hs2, hp2, hV2⟩
    have hV2' : V.Le V2 := hV2.trans (View.hide_le _ _)
    refine br_intro (fun hlt => ?_) (fun hge => ?_)
    · have hlt : k < nd.seqs.length := by have := of_decide_eq_true hlt; omega
      obtain ⟨ad, ha, hc, hin⟩ := (hN.seqs.mono hV2').intN hlt
      refine ⟨by omega, by omega, ad, ha, _, hc, ?_⟩
      have etk : nd.seqs.take (k + 1) = nd.seqs.take k ++ [nd.seqs.getD k 0] := by rw [List.take_add_one, List.getElem?_eq_getElem hlt, getD_at0 hlt]; rfl
      have hpre2 : allS (t.take i) ++ nd.seqs.take (k + 1) <+: allS t := by
        refine List.IsPrefix.trans ?_ hpre
        rw [List.prefix_append_right_inj]
        exact List.take_prefix _ _
      rw [etk, ← List.append_assoc] at hpre2
      generalize hx : nd.seqs.getD k 0 = x at *
      obtain ⟨es, cl, f, hse, hmf, hfd, hbump⟩ := hs2.bump x
      have hcl : (allS (t.take i) ++ nd.seqs.take k).count x ≤ 65 := by
        refine Nat.le_trans List.count_le_length ?_
        simp only [List.length_append, List.length_take]; omega
      refine ⟨trivial, es, cl, f, hse, hmf, _, hfd, inI64 (by omega) (by omega), trivial, r, es, cl, f, rfl, hse, hmf, ?_⟩
      dsimp only
      have hV3 : V.Le ((V2.put r (mput es cl f (.int .i64 x) (.int .i64 (((allS (t.take i) ++ nd.seqs.take k).count x : Int) + 1)))).hide r) := hV2.trans (hide_le_put_hide r _)
      generalize (V2.put r (mput es cl f (.int .i64 x) (.int .i64 (((allS (t.take i) ++ nd.seqs.take k).count x : Int) + 1)))) = V3 at *
      refine joinP_cut (fun q V' => q.1 = !apartL (allS (t.take i) ++ nd.seqs.take k ++ [x]) ∧ V' = V3) (br_intro (fun hx0 => ?_) (fun hx0 => ⟨?_, rfl⟩)) ?_
      · obtain ⟨es, cl, f, h1, h2, h3⟩ := hbump.look x
        refine ⟨trivial, es, cl, f, h1, h2, _, h3, ?_, rfl⟩
        rw [apart_snoc hp2, hx0]
        simp only [Bool.true_and, Bool.not_not]
        exact decide_eq_decide.2 (by omega)
      · rw [apart_snoc hp2, hx0]; rfl
      · rintro ⟨q, ⟨⟩⟩ V4 ⟨h1, hV⟩
        simp only at h1 hV
        subst h1 hV
        dsimp only [unc]
        refine br_intro (fun hb => ⟨?_, hV3.trans (View.hide_le _ _)⟩) (fun hb => ⟨inI64 (by omega) (by omega), ⟨k + 1, by omega, by omega, ?_, ?_, hV3⟩, by omega⟩)
        · rw [apart_prefix hpre2 (not_t hb)]
        · rw [etk, ← List.append_assoc]; exact hbump
        · rw [etk, ← List.append_assoc]; exact not_f hb
    · have hge : k = nd.seqs.length := by have := of_decide_eq_false hge; omega
      subst hge
      rw [List.take_length] at hs2 hp2
      refine ⟨inI64 (by omega) (by omega), ⟨i + 1, by omega, by omega, ?_, ?_, hV2⟩, by omega⟩
      · rw [allS_take (by omega), hnd]; exact hs2
      · rw [allS_take (by omega), hnd]; exact hp2
  · have hge : i = 12 := by have := of_decide_eq_false hge; omega
    subst hge
    rw [List.take_of_length_le (by omega)] at hp1
    exact ⟨by rw [hp1], hV1'⟩
end Go.Proofs.Ytpalkdmngckcoaa
