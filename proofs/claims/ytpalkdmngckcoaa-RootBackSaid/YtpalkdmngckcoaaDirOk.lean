/- The contract of dir.May. -/
import Derived.Test.YtpalkdmngckcoaaBelowOk
import Derived.Test.YtpalkdmngckcoaaApartOk
namespace Go.Proofs.Ytpalkdmngckcoaa
open Go
theorem mayN_seqs {n : Nod} (h : mayN n = true) : n.seqs.length ≤ 5 := by
  unfold mayN at h
  split at h
  · simp at h; rw [h.1.2]; simp
  · split at h
    · unfold fileB at h; simp at h; omega
    · split at h
      · simp at h; rw [h.1.2]; simp
      · cases h
theorem mayT_ok {s : Sl} {t : Tre} {V : View} (h : SlR V s t) : CallV Try.prog 11 ⟨[treV s]⟩ V fun r V' => r = .bool (mayT t) ∧ V.Le V' := by
  refine f11_x ?_
  unfold f11_n
  have hn := h.n
  refine fun _ => joinP_cut (fun q V' => q.1 = (!(decide (t.length = 12) && t.all mayN && decide ((t.getD 0 default).kind = 2))) ∧ V' = V) (br_intro (fun hb => ⟨?_, rfl⟩) (fun hb => ?_)) ?_
  · have hb : ¬ t.length = 12 := by have := of_decide_eq_false (not_t hb); omega
    rw [decide_eq_false hb]; rfl
  · have hb : t.length = 12 := by have := of_decide_eq_true (not_f hb); omega
    refine (containsFuncN_ok (p := fun n => !mayN n) h fun n _ a b hN => ?_).mono ?_
    · exact may1_ok hN
    · rintro r V' ⟨rfl, rfl⟩
      have e1 : (t.any fun n => !mayN n) = !t.all mayN := by rw [List.any_eq_not_all_not]; simp
      refine ⟨_, rfl, br_intro (fun h1 => ⟨?_, rfl⟩) (fun h1 => ?_)⟩
      · rw [e1] at h1
        rw [not_t h1, Bool.and_false]; rfl
      · rw [e1] at h1
        obtain ⟨ad, sq, en, ha, hc, hN⟩ := h.nodN (i := 0) (by omega)
        refine ⟨by omega, by omega, ad, ha, _, cellsAt_nth hc 0 rfl, ?_, rfl⟩
        rw [decide_eq_true hb, not_f h1]; rfl
  · rintro ⟨q, ⟨⟩⟩ V1 ⟨h1, hV⟩
    simp only at h1 hV
    subst h1 hV
    dsimp only [unc]
    refine br_intro (fun hb => ⟨?_, View.Le.refl _⟩) (fun hb => ?_)
    · have hb := not_t hb
      unfold mayT
      have : (decide (t.length = 12) && t.all mayN && decide ((t.getD 0 default).kind = 2)) = false := by simpa using hb
      rw [this]; rfl
    · have hb := not_f hb
      have h3 : (decide (t.length = 12) && t.all mayN && decide ((t.getD 0 default).kind = 2)) = true := hb
      have hM : mayT t = ((List.range 12).all (fun i => hangB (t.getD i default) i ((cnt 12 (allE t)).getD i 0) (metB t 0 i)) && apartL (allS t)) := by
        unfold mayT; rw [h3, Bool.true_and]
      rw [hM]
      simp only [Bool.and_eq_true, decide_eq_true_eq, List.all_eq_true] at h3
      obtain ⟨⟨h12, hall⟩, _⟩ := h3
      have hE : ∀ n ∈ t, n.ents.length ≤ 10 := fun n hn => mayL_len (mayN_ents (hall n hn))
      have hnode : ∀ n ∈ t, ∀ e ∈ n.ents, 0 ≤ e.node ∧ e.node < 12 := fun n hn e he => by
        have := mayL_node (mayN_ents (hall n hn)) he; omega
      refine ⟨trivial, V1, View.Le.refl _, (names_ok h h12 hE).mono ?_⟩
      rintro r V2 ⟨x, rfl, hx, hV2⟩
      refine ⟨x, rfl, hV2, (below_ok (a := 0) (h.mono hV2) h12 (by decide) hnode).mono ?_⟩
      rintro r V3 ⟨y, rfl, hy, hV3⟩
      refine ⟨y, rfl, ?_⟩
      have hx3 := hx.mono hV3
      refine loop1 (k := .int .i64) (fun (x : Int) V' => V' = V3 ∧ ∃ i : Nat, x = i ∧ i ≤ 12 ∧ (List.range i).all (fun i => hangB (t.getD i default) i ((cnt 12 (allE t)).getD i 0) (metB t 0 i)) = true) (fun (x : Int) _ => 12 - x.toNat) ⟨rfl, 0, rfl, by omega, rfl⟩ ?_
      rintro (i : Int) V4 ⟨rfl, i, rfl, hi, hP⟩
      have hV14 := hV2.trans hV3
      refine br_intro (fun hlt => ?_) (fun hge => ?_)
      · have hlt : i < 12 := by have := of_decide_eq_true hlt; omega
        obtain ⟨ad, sq, en, ha, hc, hN⟩ := (h.mono hV14).nodN (i := i) (by omega)
        obtain ⟨ad2, ha2, hc2, _⟩ := hx3.intN (i := i) (by rw [cnt_len]; exact hlt)
        obtain ⟨ad3, hx', ha3, hc3⟩ := hy.bool (x := (i : Int)) (by omega) (by have := hy.n; simp at this; omega)
        have e3 : ((List.range 12).map (metB t 0))[((i : Int)).toNat] = metB t 0 i := by simp
        rw [e3] at hc3
        have hxn := hx3.n
        rw [cnt_len] at hxn
        have hyn := hy.n
        simp only [List.length_map, List.length_range] at hyn
        refine ⟨by omega, by omega, ad, ha, _, _, _, sq, en, hc, fun _ => ⟨trivial, V4, View.Le.refl _, by omega, by omega, ad2, ha2, _, hc2, by omega, by omega, ad3, ha3, _, hc3, hangs_ok.mono ?_⟩⟩
        rintro r V5 ⟨rfl, rfl⟩
        refine ⟨_, rfl, br_intro (fun hb => ⟨?_, hV14⟩) (fun hb => ⟨inI64 (by omega) (by omega), ⟨rfl, i + 1, by omega, by omega, all_step hP (not_f hb)⟩, by omega⟩)⟩
        rw [all_stop hlt (not_t hb)]; rfl
      · have hge : i = 12 := by have := of_decide_eq_false hge; omega
        subst hge
        refine (apart_ok (h.mono hV14) h12 fun n hn => mayN_seqs (hall n hn)).mono ?_
        rintro r V5 ⟨rfl, hV5⟩
        refine ⟨_, rfl, ?_, hV14.trans hV5⟩
        rw [hP, Bool.true_and]
end Go.Proofs.Ytpalkdmngckcoaa
