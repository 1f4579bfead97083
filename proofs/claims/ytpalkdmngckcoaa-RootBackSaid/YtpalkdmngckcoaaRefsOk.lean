/- Contracts: refs of nodes and trees. -/
import Derived.Test.YtpalkdmngckcoaaDirOk
namespace Go.Proofs.Ytpalkdmngckcoaa
open Go
/-- The refs of a file's first pages. -/
def refsK (i : Int) (n : Nod) (k : Nat) : List Rf := (List.range k).filterMap fun (j : Nat) => if n.seqs.getD j 0 = 0 then none else some ⟨1 + i * 5 + j, n.seqs.getD j 0⟩
/-- The refs of a node. -/
def refsN (i : Int) (n : Nod) : List Rf := if n.kind = 1 ∧ mayN n = true ∧ within i 11 = true then refsK i n n.seqs.length else []
/-- The refs of a tree. -/
def refsU (t : Tre) (k : Nat) : List Rf := (List.range k).flatMap fun (i : Nat) => refsN (i : Int) (t.getD i default)
noncomputable def refsT (t : Tre) : List Rf := if mayT t then refsU t t.length else []
theorem refsK_len (i : Int) (n : Nod) (k : Nat) : (refsK i n k).length ≤ k := by
  unfold refsK
  have := List.length_filterMap_le (fun (j : Nat) => if n.seqs.getD j 0 = 0 then none else some (⟨1 + i * 5 + j, n.seqs.getD j 0⟩ : Rf)) (List.range k)
  rwa [List.length_range] at this
theorem refsK_succ (i : Int) (n : Nod) (k : Nat) : refsK i n (k + 1) = refsK i n k ++ (if n.seqs.getD k 0 = 0 then [] else [⟨1 + i * 5 + k, n.seqs.getD k 0⟩]) := by
  unfold refsK
  rw [List.range_succ, List.filterMap_append]
  congr 1
  simp only [List.filterMap_cons, List.filterMap_nil]
  split <;> rename_i h <;> split at h <;> simp_all
theorem refsN_len (i : Int) (n : Nod) : (refsN i n).length ≤ 5 := by
  unfold refsN
  split
  · rename_i h
    exact Nat.le_trans (refsK_len _ _ _) (mayN_seqs h.2.1)
  · simp
theorem refsU_succ (t : Tre) (k : Nat) : refsU t (k + 1) = refsU t k ++ refsN k (t.getD k default) := by
  unfold refsU; rw [List.range_succ]; simp
theorem refsU_len (t : Tre) : ∀ k, (refsU t k).length ≤ 5 * k
  | 0 => by simp [refsU]
  | k + 1 => by
    rw [refsU_succ, List.length_append]
    have := refsU_len t k
    have := refsN_len k (t.getD k default)
    omega
structure rfL (cs : List Value) (l : List Rf) : Prop where
  rep : ∀ {W : View}, repL W cs l
theorem repL.rf {W : View} : ∀ {cs : List Value} {l : List Rf}, repL W cs l → rfL cs l
  | _, [], h => ⟨h⟩
  | _, _ :: _, ⟨vs, us, e, h1, h2⟩ => ⟨⟨vs, us, e, h1, (repL.rf h2).rep⟩⟩
theorem refsN_ok {i : Int} {n : Nod} {s e : Sl} {V : View} (h : NodR V s e n) : CallV Try.prog 43 ⟨[.int .i64 i, nodV n s e]⟩ V fun r V' => ∃ x : Sl, r = .slice x.a x.n x.c ∧ SlR V' x (refsN i n) ∧ V.Le V' := by
  refine f43_x ?_
  unfold f43_n
  refine fun _ => joinP_cut (fun q V' => q.1 = (!decide (n.kind = 1 ∧ mayN n = true ∧ within i 11 = true)) ∧ V' = V) (br_intro (fun hb => ⟨?_, rfl⟩) (fun hb => (mayN_ok h).mono ?_)) ?_
  · have hb := of_decide_eq_false (not_t hb)
    rw [decide_eq_false (fun h => hb h.1)]; rfl
  · have hb := of_decide_eq_true (not_f hb)
    rintro r V1 ⟨rfl, rfl⟩
    refine ⟨_, rfl, br_intro (fun h1 => ⟨?_, rfl⟩) (fun h1 => within_ok.mono ?_)⟩
    · have h1 := not_t h1
      rw [decide_eq_false (fun h => by rw [h1] at h; exact absurd h.2.1 (by decide))]; rfl
    · have h1 := not_f h1
      rintro r V2 ⟨rfl, rfl⟩
      refine ⟨_, rfl, ?_, rfl⟩
      cases h2 : within i 11
      · rw [decide_eq_false (fun h => absurd h.2.2 (by decide))]
      · rw [decide_eq_true ⟨hb, h1, rfl⟩]
  · rintro ⟨q, ⟨⟩⟩ V1 ⟨h1, hV⟩
    simp only at h1 hV
    subst h1 hV
    dsimp only [unc]
    refine br_intro (fun hb => ⟨⟨none, 0, 0⟩, rfl, ?_, View.Le.refl _⟩) (fun hb => ?_)
    · have hb := of_decide_eq_false (not_t hb)
      unfold refsN; rw [if_neg hb]; exact SlR.nil _ _ _
    · have hb := of_decide_eq_true (not_f hb)
      have hw : 0 ≤ i ∧ i ≤ 11 := by
        have := hb.2.2
        unfold within at this; simpa using this
      have h5 := mayN_seqs hb.2.1
      have hR : refsN i n = refsK i n n.seqs.length := by unfold refsN; rw [if_pos hb]
      rw [hR]
      have hsn := h.seqs.n
      refine loop2 (k := .sl) (l := .int .i64) (fun (x : Sl) (j : Int) V' => ∃ (k : Nat) (cs : List Value), j = k ∧ k ≤ n.seqs.length ∧ Buf V' x 40 2 cs ∧ repL V1 cs (refsK i n k) ∧ V1.Le (V'.minus x)) (fun _ (j : Int) _ => n.seqs.length - j.toNat) ⟨0, [], rfl, by omega, Buf.nil _ _ _, rfl, View.Le.refl _⟩ ?_
      rintro (x : Sl) (j : Int) V2 ⟨k, cs, rfl, hk, hbuf, hrep, hV2⟩
      have q2 : V1.Le V2 := hV2.trans (View.minus_le _ _)
      refine br_intro (fun hlt => ?_) (fun hge => ?_)
      · have hlt : k < n.seqs.length := by have := of_decide_eq_true hlt; omega
        obtain ⟨ad, ha, hc, hin⟩ := (h.seqs.mono q2).intN hlt
        have hin' := inI64_iff.1 hin
        refine ⟨by omega, by omega, ad, ha, _, hc, ?_⟩
        refine joinP_cut (fun q V' => ∃ cs, Buf V' q.1 40 2 cs ∧ repL V1 cs (refsK i n (k + 1)) ∧ V1.Le (V'.minus q.1)) (br_intro (fun h0 => ?_) (fun h0 => ?_)) ?_
        · have h0 : ¬ n.seqs.getD k 0 = 0 := of_decide_eq_false (not_t h0)
          refine ⟨inI64 (by omega) (by omega), inI64 (by omega) (by omega), inI64 (by omega) (by omega), fun r hr => ?_⟩
          have hfr := View.see_none_of_ge hr
          have hxn := hbuf.n_eq (α := Rf) hrep
          have hrl := refsK_len i n k
          refine apV_buf rfl (hbuf.put hfr) (src := [.int .i64 (1 + i * 5 + k), .int .i64 (n.seqs.getD k 0)]) (m := 1) ⟨rfl, rowAt_new (View.see_put_same _ _ _) rfl⟩ rfl rfl (by show (x.n + 1) * 16 ≤ _; omega) (by show x.n + 1 ≤ _; omega) fun s V' hb' _ hle' => ?_
          refine ⟨_, hb', ?_, hV2.trans ((put_minus_le hfr).trans hle')⟩
          rw [refsK_succ, if_neg h0]
          exact hrep.snoc ⟨rfl, inI64 (by simp only; omega) (by simp only; omega), hin⟩
        · have h0 : n.seqs.getD k 0 = 0 := of_decide_eq_true (not_f h0)
          refine ⟨cs, hbuf, ?_, hV2⟩
          rw [refsK_succ, if_pos h0, List.append_nil]; exact hrep
        · rintro ⟨q, ⟨⟩⟩ V3 ⟨cs3, hb3, hr3, hV3⟩
          exact ⟨inI64 (by omega) (by omega), ⟨k + 1, cs3, by omega, by omega, hb3, hr3, hV3⟩, by omega⟩
      · have hge : k = n.seqs.length := by have := of_decide_eq_false hge; omega
        subst hge
        exact ⟨x, rfl, hbuf.slR hrep q2, q2⟩
theorem refsT_ok {s : Sl} {t : Tre} {V : View} (h : SlR V s t) : CallV Try.prog 14 ⟨[treV s]⟩ V fun r V' => ∃ x : Sl, r = .slice x.a x.n x.c ∧ SlR V' x (refsT t) ∧ V.Le V' := by
  refine f14_x ?_
  unfold f14_n
  refine fun _ => (mayT_ok h).mono ?_
  rintro r V1 ⟨rfl, hV1⟩
  refine ⟨_, rfl, br_intro (fun hb => ⟨⟨none, 0, 0⟩, rfl, ?_, hV1⟩) (fun hb => ?_)⟩
  · unfold refsT; rw [not_t hb]; exact SlR.nil _ _ _
  have hM := not_f hb
  have h12 : t.length = 12 := by
    unfold mayT at hM
    simp only [Bool.and_eq_true, decide_eq_true_eq] at hM
    exact hM.1.1.1.1
  unfold refsT
  rw [if_pos hM]
  have hn := h.n
  refine loop2 (k := .sl) (l := .int .i64) (fun (x : Sl) (j : Int) V' => ∃ (k : Nat) (cs : List Value), j = k ∧ k ≤ t.length ∧ Buf V' x 40 2 cs ∧ repL V1 cs (refsU t k) ∧ V1.Le (V'.minus x)) (fun _ (j : Int) _ => t.length - j.toNat) ⟨0, [], rfl, by omega, Buf.nil _ _ _, rfl, View.Le.refl _⟩ ?_
  rintro (x : Sl) (j : Int) V2 ⟨k, cs, rfl, hk, hbuf, hrep, hV2⟩
  have q2 : V1.Le V2 := hV2.trans (View.minus_le _ _)
  refine br_intro (fun hlt => ?_) (fun hge => ?_)
  · have hlt : k < t.length := by have := of_decide_eq_true hlt; omega
    obtain ⟨ad, sq, en, ha, hc, hN⟩ := (h.mono (hV1.trans q2)).nodN hlt
    refine ⟨by omega, by omega, ad, ha, _, _, _, sq, en, hc, fun _ => (refsN_ok (i := (k : Int)) hN).mono ?_⟩
    rintro r V3 ⟨y, rfl, hy, hV3⟩
    obtain ⟨cy, hrow, hcy⟩ := hy.row
    have hxn := hbuf.n_eq (α := Rf) hrep
    have hrl := refsU_len t k
    have hyn := hy.n
    have hyl := refsN_len (k : Int) (t.getD k default)
    refine ⟨y, rfl, ?_⟩
    refine apV_buf rfl (hbuf.mono hV3) (src := cy) (m := y.n) ⟨rfl, hrow⟩ (by rw [hcy.len, hyn]; rfl) hcy.one (by show (x.n + y.n) * 16 ≤ _; omega) (by show x.n + y.n ≤ _; omega) fun s V' hb' _ hle' => ?_
    refine ⟨inI64 (by omega) (by omega), ⟨k + 1, _, by omega, by omega, hb', ?_, hV2.trans ((minus_mono hV3 x).trans hle')⟩, by omega⟩
    rw [refsU_succ]
    exact hrep.append hcy.rf.rep
  · have hge : k = t.length := by have := of_decide_eq_false hge; omega
    subst hge
    exact ⟨x, rfl, hbuf.slR hrep q2, hV1.trans q2⟩
end Go.Proofs.Ytpalkdmngckcoaa
