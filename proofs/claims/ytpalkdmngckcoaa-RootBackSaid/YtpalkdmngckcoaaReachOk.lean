/- Contracts of the reference: which directories one comes to, names of a node. -/
import Derived.Test.YtpalkdmngckcoaaBelowOk
import Derived.Test.YtpalkdmngckcoaaReachLaw
namespace Go.Proofs.Ytpalkdmngckcoaa
open Go
/-- Marks in a block, beside what was there. -/
structure MI (V V' : View) (r : Nat) (on : List Bool) : Prop where
  marks : V'.see r = some (.cells ⟨boolsV on⟩ 4 (0, 0))
  le : V.Le (V'.hide r)
theorem MI.vle {V V' : View} {r : Nat} {on : List Bool} (h : MI V V' r on) : V.Le V' := h.le.trans (View.hide_le _ _)
theorem MI.get {V V' : View} {r : Nat} {on : List Bool} (h : MI V V' r on) {q : Nat} (hq : q < on.length) : V'.cell? ((⟨r, 0, none⟩ : Addr).add (q * 1)) = some (.bool (on.getD q false)) := by
  rw [addr0_add]
  refine cell_of_see h.marks ?_
  rw [List.getD_eq_getElem?_getD, List.getElem?_eq_getElem hq]
  show (boolsV on)[0 + q * 1]? = _
  unfold boolsV
  rw [Nat.zero_add, Nat.mul_one, List.getElem?_map, List.getElem?_eq_getElem hq]
  rfl
theorem MI.set {V V' : View} {r : Nat} {on : List Bool} (h : MI V V' r on) {q : Nat} (hq : q < on.length) : canSet V' ((⟨r, 0, none⟩ : Addr).add (q * 1)) 1 ∧ MI V (V'.sets ((⟨r, 0, none⟩ : Addr).add (q * 1)) [.bool true]) r (on.set q true) := by
  rw [addr0_add]
  refine ⟨canSet_of h.marks (show 0 + q * 1 + 1 ≤ _ by rw [boolsV_len]; omega), ?_, ?_⟩
  · rw [sets_see h.marks, View.see_put_same, putL_one, Nat.zero_add, Nat.mul_one, boolsV_set]
  · rw [sets_see h.marks]
    exact h.le.trans (hide_le_put_hide r _)
theorem reached_ok {s : Sl} {t : Tre} {V : View} (h : SlR V s t) (h12 : t.length = 12) (hall : ∀ n ∈ t, mayN n = true) (h2 : kindT t 0 = 2) :
    CallV Try.prog 41 ⟨[treV s, .int .i64 0]⟩ V fun r V' => ∃ x : Sl, r = .slice x.a x.n x.c ∧ SlR V' x ((List.range 12).map fun j => metB t 0 j && decide (kindT t j = 2)) ∧ V.Le V' := by
  refine f41_x ?_
  unfold f41_n
  have hn : s.n = 12 := by rw [h.n, h12]
  rw [hn]
  refine fun _ => ⟨by decide, by decide, by decide, by decide, fun r hr => ?_⟩
  have hfr : V.see r = none := View.see_none_of_ge hr
  have hM0 : MI V (V.put r (.cells ⟨(List.replicate (((12 : Nat) : Int).toNat) [Value.bool false]).flatten⟩ 4 (0, 0))) r (List.replicate 12 false) := ⟨View.see_put_same _ _ _, put_le_hide hfr (View.Le.refl _)⟩
  generalize (V.put r (.cells ⟨(List.replicate (((12 : Nat) : Int).toNat) [Value.bool false]).flatten⟩ 4 (0, 0))) = V1 at *
  refine joinP_cut (fun q V' => q.1 = false ∧ V' = V1) (br_intro (fun hb => absurd hb (by decide)) (fun _ => ?_)) ?_
  · obtain ⟨ad, sq, en, ha, hc, hN⟩ := (h.mono hM0.vle).nodN (i := 0) (by omega)
    refine ⟨by omega, by omega, ad, ha, _, cellsAt_nth hc 0 rfl, ?_, rfl⟩
    rw [decide_eq_true (show (t.getD 0 default).kind = 2 from h2)]; rfl
  rintro ⟨q, ⟨⟩⟩ V2 ⟨h1, hV⟩
  simp only at h1 hV
  subst h1 hV
  dsimp only [unc]
  refine br_intro (fun hb => absurd hb (by decide)) (fun _ => ?_)
  obtain ⟨hs1, hM1⟩ := hM0.set (q := 0) (by simp)
  refine ⟨by omega, by omega, _, rfl, hs1, ?_⟩
  have hR1 : RI t ((List.replicate 12 false).set 0 true) := by
    have hg := fun j => getD_set_bool (List.replicate 12 false) 0 j (by simp)
    refine ⟨by simp, by rw [hg, if_pos rfl], fun j hj => ?_⟩
    rw [hg] at hj
    split at hj
    · rename_i e; subst e; exact ⟨.refl, h2⟩
    · rw [List.getD_eq_getElem?_getD, List.getElem?_replicate] at hj
      split at hj <;> cases hj
  have hlim := h.lim
  refine loop1 (k := .int .i64) (fun (x : Int) V' => ∃ (k : Nat) (on : List Bool), x = k ∧ k ≤ 12 ∧ MI V V' r on ∧ RI t on ∧ (Clo t on on 12 ∨ k + 1 ≤ trues on)) (fun (x : Int) _ => 12 - x.toNat) ⟨0, _, rfl, by omega, hM1, hR1, .inr (by decide)⟩ ?_
  rintro (x : Int) V3 ⟨k, on0, rfl, hk, hM3, hR3, hC3⟩
  refine br_intro (fun hlt => ?_) (fun hge => ?_)
  · have hlt : k < 12 := by have := of_decide_eq_true hlt; omega
    refine loop1 (k := .int .i64) (fun (x : Int) V' => ∃ (i : Nat) (on : List Bool), x = i ∧ i ≤ 12 ∧ MI V V' r on ∧ PI t on0 on i) (fun (x : Int) _ => 12 - x.toNat) ⟨0, on0, rfl, by omega, hM3, .start hR3⟩ ?_
    rintro (x : Int) V4 ⟨i, on, rfl, hi, hM4, hP4⟩
    refine br_intro (fun hlt => ?_) (fun hge => ?_)
    · have hlt : i < 12 := by have := of_decide_eq_true hlt; omega
      have hlti := hlt
      obtain ⟨ad, sq, en, ha, hc, hN⟩ := h.nodN (i := i) (by omega)
      have hmem : t.getD i default ∈ t := by rw [getD_at (by omega)]; exact List.getElem_mem _
      have hnode := mayN_ents (hall _ hmem)
      have hil : i < on.length := by rw [hP4.ri.len]; exact hlt
      refine joinP_cut (fun _ V' => ∃ on, MI V V' r on ∧ PI t on0 on (i + 1)) ⟨by omega, by omega, ad, ha, _, _, _, sq, en, cellsAt_mono hM4.vle hc, fun _ => ⟨by omega, by omega, _, rfl, _, hM4.get hil, br_intro (fun hb => ?_) (fun hb => ?_)⟩⟩ ?_
      · exact ⟨on, hM4, hP4.skip (not_t hb)⟩
      · have hon := not_f hb
        have hen := hN.ents.n
        have helim := hN.ents.lim
        have hle0 : (entsT t i).length = (t.getD i default).ents.length := rfl
        refine loop1 (k := .int .i64) (fun (x : Int) V' => ∃ (m : Nat) (on : List Bool), x = m ∧ m ≤ (entsT t i).length ∧ MI V V' r on ∧ PI t on0 on i ∧ on.getD i false = true ∧ ∀ e ∈ (entsT t i).take m, kindT t e.node.toNat = 2 → on.getD e.node.toNat false = true) (fun (x : Int) _ => (entsT t i).length - x.toNat) ⟨0, on, rfl, by omega, hM4, hP4, hon, fun e he => by simp at he⟩ ?_
        rintro (x : Int) V5 ⟨m, on5, rfl, hm, hM5, hP5, hon5, hdone⟩
        refine br_intro (fun hlt => ?_) (fun hge => ?_)
        · have hltm : m < (entsT t i).length := by have := of_decide_eq_true hlt; omega
          obtain ⟨ad3, ha3, hc3, _, _⟩ := (hN.ents.mono hM5.vle).entN (i := m) hltm
          have hxm : (t.getD i default).ents.getD m default ∈ (t.getD i default).ents := by rw [getD_at hltm]; exact List.getElem_mem _
          have hq := mayL_node hnode hxm
          have etk : (entsT t i).take (m + 1) = (entsT t i).take m ++ [(t.getD i default).ents.getD m default] := by rw [List.take_add_one, List.getElem?_eq_getElem hltm, getD_at hltm]; rfl
          obtain ⟨q, hqe⟩ : ∃ q : Nat, ((t.getD i default).ents.getD m default).node = q := ⟨((t.getD i default).ents.getD m default).node.toNat, by omega⟩
          have hq12 : q < 12 := by omega
          refine ⟨by omega, by omega, ad3, ha3, _, _, hc3, fun _ => ?_⟩
          rw [hqe]
          generalize hxx : (t.getD i default).ents.getD m default = e at *
          refine joinP_cut (fun g V' => g.1 = decide (kindT t q = 2) ∧ V' = V5) (br_intro (fun _ => ?_) (fun hb => ?_)) ?_
          · obtain ⟨ad4, sq4, en4, ha4, hc4, _⟩ := h.nodN (i := q) (by omega)
            exact ⟨by omega, by omega, ad4, ha4, _, cellsAt_nth (cellsAt_mono hM5.vle hc4) 0 rfl, rfl, rfl⟩
          · exfalso
            rw [decide_eq_true (show (0 : Int) ≤ (q : Int) by omega)] at hb
            have := of_decide_eq_false hb
            omega
          · rintro ⟨g, ⟨⟩⟩ V6 ⟨h1, hV⟩
            simp only at h1 hV
            subst h1 hV
            dsimp only [unc]
            have hql : q < on5.length := by rw [hP5.ri.len]; exact hq12
            refine joinP_cut (fun _ V' => ∃ on, MI V V' r on ∧ PI t on0 on i ∧ on.getD i false = true ∧ ∀ e ∈ (entsT t i).take (m + 1), kindT t e.node.toNat = 2 → on.getD e.node.toNat false = true) (br_intro (fun hb => ?_) (fun hb => ?_)) ?_
            · have hkq := of_decide_eq_true hb
              obtain ⟨hs6, hM6⟩ := hM5.set hql
              have hg := fun j => getD_set_bool on5 q j hql
              refine ⟨by omega, by omega, _, rfl, hs6, _, hM6, hP5.mark hlti hon5 hxm hqe hq12 hkq, by rw [hg, hon5]; simp, fun e' he' hk' => ?_⟩
              rw [etk] at he'
              rw [hg]
              rcases List.mem_append.1 he' with h7 | h7
              · rw [hdone e' h7 hk']; simp
              · rw [List.mem_singleton.1 h7, hqe, Int.toNat_natCast, if_pos rfl]
            · have hkq := of_decide_eq_false hb
              refine ⟨on5, hM5, hP5, hon5, fun e' he' hk' => ?_⟩
              rw [etk] at he'
              rcases List.mem_append.1 he' with h7 | h7
              · exact hdone e' h7 hk'
              · rw [List.mem_singleton.1 h7, hqe, Int.toNat_natCast] at hk'
                exact absurd hk' hkq
            · rintro ⟨⟩ V7 ⟨on7, hM7, hP7, hon7, hd7⟩
              exact ⟨inI64 (by omega) (by omega), ⟨m + 1, on7, by omega, by omega, hM7, hP7, hon7, hd7⟩, by omega⟩
        · have hge : m = (entsT t i).length := by have := of_decide_eq_false hge; omega
          subst hge
          rw [List.take_length] at hdone
          exact ⟨on5, hM5, hP5.next hdone⟩
      · rintro ⟨⟩ V5 ⟨on5, hM5, hP5⟩
        exact ⟨inI64 (by omega) (by omega), ⟨i + 1, on5, by omega, by omega, hM5, hP5⟩, by omega⟩
    · have hge : i = 12 := by have := of_decide_eq_false hge; omega
      subst hge
      exact ⟨inI64 (by omega) (by omega), ⟨k + 1, on, by omega, by omega, hM4, hP4.ri, hP4.round hR3 hC3⟩, by omega⟩
  · have hge : k = 12 := by have := of_decide_eq_false hge; omega
    subst hge
    refine ⟨⟨some ⟨r, 0, none⟩, 12, 12⟩, rfl, ?_, hM3.vle⟩
    have := slR_block (W := V3) hM3.marks rows_bool (View.Le.refl _) (by rw [hR3.len]; omega)
    rw [hR3.len, hR3.end hC3 h12 hall] at this
    exact this
theorem named_ok {s : Sl} {t : Tre} {a : Int} {V : View} (h : SlR V s t) (h12 : t.length = 12) (he : ∀ n ∈ t, n.ents.length ≤ 10) :
    CallV Try.prog 42 ⟨[treV s, .int .i64 a]⟩ V fun r V' => r = .int .i64 ((allE t).countP (fun (x : Ent) => decide (x.node = a)) : Nat) ∧ V' = V := by
  refine f42_x ?_
  unfold f42_n
  have hn := h.n
  refine fun _ => ?_
  refine loop2 (k := .int .i64) (l := .int .i64) (fun (x : Int) (j : Int) V' => V' = V ∧ ∃ i : Nat, j = i ∧ i ≤ 12 ∧ x = ((allE (t.take i)).countP (fun (x : Ent) => decide (x.node = a)) : Nat)) (fun _ (j : Int) _ => 12 - j.toNat) ⟨rfl, 0, rfl, by omega, rfl⟩ ?_
  rintro (x : Int) (j : Int) V1 ⟨rfl, i, rfl, hi, rfl⟩
  refine br_intro (fun hlt => ?_) (fun hge => ?_)
  · have hlt : i < 12 := by have := of_decide_eq_true hlt; omega
    obtain ⟨ad, sq, en, ha, hc, hN⟩ := h.nodN (i := i) (by omega)
    have hmem : t.getD i default ∈ t := by rw [getD_at (by omega)]; exact List.getElem_mem _
    have hle := he _ hmem
    have hti := allE_take (t := t) (i := i) (by omega)
    have htk : (allE (t.take i)).length ≤ 10 * 12 := Nat.le_trans (allE_len fun n hn => he n (List.mem_of_mem_take hn)) (Nat.mul_le_mul_left _ (by simp; omega))
    have hen := hN.ents.n
    refine ⟨by omega, by omega, ad, ha, _, _, _, sq, en, hc, fun _ => ?_⟩
    generalize t.getD i default = nd at *
    refine loop2 (k := .int .i64) (l := .int .i64) (fun (x : Int) (j : Int) V' => V' = V1 ∧ ∃ k : Nat, j = k ∧ k ≤ nd.ents.length ∧ x = ((allE (t.take i) ++ nd.ents.take k).countP (fun (x : Ent) => decide (x.node = a)) : Nat)) (fun _ (j : Int) _ => nd.ents.length - j.toNat) ⟨rfl, 0, rfl, by omega, by simp⟩ ?_
    rintro (x : Int) (j : Int) V2 ⟨rfl, k, rfl, hk, rfl⟩
    have hcl := List.countP_le_length (p := fun (x : Ent) => decide (x.node = a)) (l := allE (t.take i) ++ nd.ents.take k)
    simp only [List.length_append, List.length_take] at hcl
    refine br_intro (fun hlt => ?_) (fun hge => ?_)
    · have hlt : k < nd.ents.length := by have := of_decide_eq_true hlt; omega
      obtain ⟨ad, ha, hc, _, _⟩ := hN.ents.entN hlt
      have etk : nd.ents.take (k + 1) = nd.ents.take k ++ [nd.ents.getD k default] := by rw [List.take_add_one, List.getElem?_eq_getElem hlt, getD_at hlt]; rfl
      refine ⟨by omega, by omega, ad, ha, _, _, hc, fun _ => ?_⟩
      generalize nd.ents.getD k default = e at *
      have hst : (allE (t.take i) ++ nd.ents.take (k + 1)).countP (fun (x : Ent) => decide (x.node = a)) = (allE (t.take i) ++ nd.ents.take k).countP (fun (x : Ent) => decide (x.node = a)) + if e.node = a then 1 else 0 := by
        rw [etk, ← List.append_assoc, List.countP_append]
        congr 1
        by_cases h1 : e.node = a <;> simp [h1]
      refine joinP_cut (fun g V' => g.1 = ((allE (t.take i) ++ nd.ents.take (k + 1)).countP (fun (x : Ent) => decide (x.node = a)) : Nat) ∧ V' = V2) (br_intro (fun h1 => ⟨inI64 (by omega) (by omega), ?_, rfl⟩) (fun h1 => ⟨?_, rfl⟩)) ?_
      · rw [hst, if_pos (of_decide_eq_true h1)]; rfl
      · rw [hst, if_neg (of_decide_eq_false h1)]; rfl
      · rintro ⟨g, ⟨⟩⟩ V3 ⟨h1, hV⟩
        simp only at h1 hV
        subst h1 hV
        exact ⟨inI64 (by omega) (by omega), ⟨rfl, k + 1, by omega, by omega, rfl⟩, by omega⟩
    · have hge : k = nd.ents.length := by have := of_decide_eq_false hge; omega
      subst hge
      rw [List.take_length] at *
      exact ⟨inI64 (by omega) (by omega), ⟨rfl, i + 1, by omega, by omega, by rw [hti]⟩, by omega⟩
  · have hge : i = 12 := by have := of_decide_eq_false hge; omega
    subst hge
    rw [List.take_of_length_le (by omega)]
    exact ⟨rfl, rfl⟩
end Go.Proofs.Ytpalkdmngckcoaa
