/- Contracts: the first tree; the law that every program must know. -/
import Derived.Test.YtpalkdmngckcoaaRootOk
import Derived.Test.YtpalkdmngckcoaaEqOk
import Derived.Test.YtpalkdmngckcoaaRefsOk
namespace Go.Proofs.Ytpalkdmngckcoaa
open Go
def dirN : Nod := ⟨2, 1, 0, [], []⟩
def firstT : Tre := dirN :: List.replicate 11 Nod.zero
def firstB : List UInt8 := [2, 0, 0, 0, 0, 0, 0, 0, 0, 0, 0, 0, 0]
theorem hang_first : ∀ i, i < 12 → ∀ met : Bool, (i = 0 → met = true) → hangB (firstT.getD i default) (i : Nat) ((cnt 12 (allE firstT)).getD i 0) met = true := by decide
theorem mayT_first : mayT firstT = true := by
  unfold mayT
  have h1 : (decide (firstT.length = 12) && firstT.all mayN && decide ((firstT.getD 0 default).kind = 2)) = true := by decide
  have h2 : apartL (allS firstT) = true := by decide
  rw [h1, h2, Bool.true_and, Bool.and_true, List.all_eq_true]
  intro i hi
  exact hang_first i (List.mem_range.1 hi) _ fun h => by subst h; exact metB_iff.2 .refl
theorem encT_first : encT firstT = firstB := by decide
theorem rd_first : rdTre 12 (some firstB) = (firstT, some []) := by decide
theorem parseT_first : parseT firstB = some firstT := by
  unfold parseT; rw [rd_first, if_pos ⟨rfl, mayT_first⟩]
theorem refsT_first : refsT firstT = [] := by
  unfold refsT; rw [if_pos mayT_first]; decide
theorem empty2_ok {V : View} : CallV Try.prog 55 ⟨[.int .i64 2]⟩ V fun r V' => r = nodV dirN ⟨none, 0, 0⟩ ⟨none, 0, 0⟩ ∧ V' = V := by
  refine f55_x ?_
  unfold f55_n
  exact fun _ => br_intro (fun h => absurd h (by decide)) (fun _ => br_intro (fun _ => ⟨rfl, rfl⟩) (fun h => absurd h (by decide)))
def nodCs (n : Nod) : List Value := [.int .i64 n.kind, .int .i64 n.links, .int .i64 n.size, .slice none 0 0, .slice none 0 0]
theorem rep_bare {W : View} {n : Nod} (h1 : inI .i64 n.kind) (h2 : inI .i64 n.links) (h3 : inI .i64 n.size) (h4 : n.seqs = []) (h5 : n.ents = []) : Rep.rep W (nodCs n) n :=
  ⟨⟨none, 0, 0⟩, ⟨none, 0, 0⟩, rfl, h1, h2, h3, by rw [h4]; exact SlR.nil _ _ _, by rw [h5]; exact SlR.nil _ _ _⟩
theorem rep_zeros {W : View} : ∀ k, repL W (List.replicate k (nodCs Nod.zero)).flatten (List.replicate k Nod.zero)
  | 0 => rfl
  | k + 1 => ⟨nodCs Nod.zero, (List.replicate k (nodCs Nod.zero)).flatten, by rw [List.replicate_succ, List.flatten_cons], rep_bare zero64 zero64 zero64 rfl rfl, rep_zeros k⟩
theorem first_ok {V : View} : CallV Try.prog 24 ⟨[]⟩ V fun r V' => ∃ x : Sl, r = treV x ∧ SlR V' x firstT ∧ V.Le V' := by
  refine f24_x (_u := ()) ?_
  unfold f24_n
  refine fun _ => ⟨by decide, by decide, by decide, by decide, fun r hr => ?_⟩
  have hfr := View.see_none_of_ge hr
  have hp := View.put_le (o := .cells ⟨(List.replicate 12 (nodCs Nod.zero)).flatten⟩ 55 (0, 0)) hfr
  refine fun _ => ⟨trivial, V, hp, empty2_ok.mono ?_⟩
  rintro r1 V1 ⟨rfl, rfl⟩
  refine ⟨_, _, _, ⟨none, 0, 0⟩, ⟨none, 0, 0⟩, rfl, hp, by decide, by decide, _, rfl, ?_, ⟨some ⟨r, 0, none⟩, 12, 12⟩, rfl, ?_, ?_⟩
  · exact canSet_of (View.see_put_same _ _ _) (by decide)
  · have e : (⟨r, 0, none⟩ : Addr).add 0 = ⟨r, 0, none⟩ := rfl
    rw [e, sets_see (View.see_put_same _ _ _)]
    have := slR_block (α := Nod) (l := firstT) (W := (V.put r (.cells ⟨(List.replicate 12 (nodCs Nod.zero)).flatten⟩ 55 (0, 0))).put r (.cells ⟨nodCs dirN ++ (List.replicate 11 (nodCs Nod.zero)).flatten⟩ 55 (0, 0))) (View.see_put_same _ _ _) ⟨nodCs dirN, _, rfl, rep_bare two64 one64 zero64 rfl rfl, rep_zeros 11⟩ (View.Le.refl _) (by decide)
    exact this
  · have e : (⟨r, 0, none⟩ : Addr).add 0 = ⟨r, 0, none⟩ := rfl
    rw [e, sets_see (View.see_put_same _ _ _)]
    exact (put_le_hide hfr (View.Le.refl _)).trans (hide_le_put r _)
theorem u8_row {V : View} {x : Sl} {l : List UInt8} (h : SlR V x l) : rowAt V x.a x.n (bytesV (ba l)) := by
  have := h.row8
  rw [Nat.mul_one] at this
  exact this
theorem awake_ok {V : View} : CallV Try.prog 8 ⟨[]⟩ V fun r V' => r = .bool true ∧ V.Le V' := by
  refine f8_x (_u := ()) ?_
  unfold f8_n
  refine first_ok.mono ?_
  rintro r V1 ⟨x, rfl, hx, hV1⟩
  refine ⟨x, rfl, (bytes_ok hx).mono ?_⟩
  rintro r V2 ⟨y, e, rfl, hy, hV2⟩
  rw [mayT_first] at hy
  obtain ⟨hy, rfl⟩ := hy
  rw [encT_first] at hy
  refine ⟨y, _, rfl, (parse_ok hy (by decide)).mono ?_⟩
  rintro r V3 ⟨z, e, rfl, hz, hV3⟩
  rw [parseT_first] at hz
  obtain ⟨hz, rfl⟩ := hz
  have hV13 := (hV1.trans hV2).trans hV3
  refine ⟨z, _, rfl, fun _ => joinP_cut (fun q V' => q.1 = true ∧ V.Le V') ⟨trivial, V3, View.Le.refl _, br_intro (fun _ => ⟨ba firstB, u8_row (hy.mono hV3), br_intro (fun _ => first_ok.mono ?_) (fun h => absurd h (by decide))⟩) (fun h => absurd h (by decide))⟩ ?_⟩
  · rintro r V4 ⟨w, rfl, hw, hV4⟩
    refine ⟨w, rfl, hV4, V3, View.Le.refl _, hV4, (sameT_ok (hz.mono hV4) hw).mono ?_⟩
    rintro r V5 ⟨rfl, rfl⟩
    refine ⟨_, rfl, hV4, V3, View.Le.refl _, hV4, br_intro (fun _ => (refsT_ok (hz.mono hV4)).mono ?_) (fun h => absurd h (by simp))⟩
    rintro r V6 ⟨u, rfl, hu, hV6⟩
    rw [refsT_first] at hu
    refine ⟨u, rfl, ?_, (hV13.trans hV4).trans hV6⟩
    rw [hu.n]; rfl
  · rintro ⟨q, ⟨⟩⟩ V4 ⟨h1, hV⟩
    simp only at h1 hV
    subst h1
    exact ⟨rfl, hV⟩
theorem awakeJ {V V0 : View} (hle : V0.Le V) {Q : Bool → View → Prop} (hQ : ∀ V', V0.Le V' → Q true V') : CallV Try.prog 8 ⟨[]⟩ V fun r V' => ∃ x : Bool, r = .bool x ∧ Q x V' :=
  awake_ok.mono fun _ V' h => ⟨true, h.1, hQ V' (hle.trans h.2)⟩
theorem rootRaw_ok {s : Sl} {l : List UInt8} {V : View} (h : SlR V s l) : CallV Try.prog 3 ⟨[.slice s.a s.n s.c]⟩ V fun r V' => r = .bool true ∧ V.Le V' := by
  refine f3_x ?_
  unfold f3_n
  have hn := h.n
  refine br_intro (fun _ => awakeJ (View.Le.refl _) fun V' hV => ⟨rfl, hV⟩) (fun hb => ?_)
  have hb : l.length ≤ 3000 := by have := of_decide_eq_false hb; omega
  refine (parse_ok h (by omega)).mono ?_
  rintro r V1 ⟨x, e, rfl, hx, hV1⟩
  refine ⟨x, e, rfl, fun _ => ?_⟩
  cases hp : parseT l with
  | none =>
    rw [hp] at hx
    obtain ⟨rfl, rfl⟩ := hx
    refine br_intro (fun _ => joinP_cut (fun q V' => q.1 = true ∧ V.Le V') (br_intro (fun _ => awakeJ hV1 fun V' hV => ⟨rfl, hV⟩) (fun h => absurd h (by decide))) ?_) (fun h => absurd h (by decide))
    rintro ⟨q, ⟨⟩⟩ V4 ⟨h1, hV⟩
    simp only at h1 hV
    subst h1
    exact ⟨rfl, hV⟩
  | some t =>
    rw [hp] at hx
    obtain ⟨hx, rfl⟩ := hx
    obtain ⟨hM, hE⟩ := parseT_enc hp
    refine br_intro (fun h => absurd h (by decide)) (fun _ => (bytes_ok hx).mono ?_)
    rintro r V2 ⟨y, e, rfl, hy, hV2⟩
    rw [hM] at hy
    obtain ⟨hy, rfl⟩ := hy
    rw [hE] at hy
    refine ⟨y, _, rfl, joinP_cut (fun q V' => q.1 = true ∧ V.Le V') ((mayT_ok (hx.mono hV2)).mono ?_) ?_⟩
    · rintro r V3 ⟨rfl, hV3⟩
      rw [hM]
      refine ⟨_, rfl, br_intro (fun _ => ⟨ba l, u8_row (hy.mono hV3), ba l, u8_row (h.mono ((hV1.trans hV2).trans hV3)), br_intro (fun _ => awakeJ ((hV1.trans hV2).trans hV3) fun V' hV => ⟨rfl, hV⟩) (fun h => absurd h (by simp))⟩) (fun h => absurd h (by decide))⟩
    · rintro ⟨q, ⟨⟩⟩ V4 ⟨h1, hV⟩
      simp only at h1 hV
      subst h1
      exact ⟨rfl, hV⟩
end Go.Proofs.Ytpalkdmngckcoaa
