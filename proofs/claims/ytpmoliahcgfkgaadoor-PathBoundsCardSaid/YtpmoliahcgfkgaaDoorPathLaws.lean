/- The statements of layer 12: each answers true. -/
import Derived.Test.YtpmoliahcgfkgaaDoorPathOk
namespace Go.Proofs.YtpmoliahcgfkgaaDoor
open Go
theorem refName_ok {s : ByteArray} {V : View} (hs : s.size < 2 ^ 62) : CallV Tryd.prog 10 ⟨[.string s]⟩ V fun r V' => r = .bool (mayB s) ∧ V' = V := by
  refine f10_x ?_
  unfold f10_n
  refine br_intro (fun h => ⟨?_, rfl⟩) (fun h => ?_)
  · congr 1
    symm
    unfold mayB
    rw [Bool.and_eq_false_iff]
    right
    rw [Bool.eq_false_iff]
    intro h2
    simp at h h2
    simp [h2] at h
    omega
  have hpre : (1 ≤ s.size && s.size ≤ 8 && !decide (s = ByteArray.mk #[46]) && !decide (s = ByteArray.mk #[46, 46])) = true := by
    simp at h ⊢
    refine ⟨⟨by omega, h.1.2⟩, h.2⟩
  refine loop1 (k := .int .i64) (fun (x : Int) V' => V' = V ∧ 0 ≤ x ∧ x ≤ s.size ∧ (s.data.toList.take x.toNat).all (fun b => okB b.toNat) = true) (fun (x : Int) _ => s.size - x.toNat) ⟨rfl, by omega, by omega, rfl⟩ ?_
  rintro (x : Int) V' ⟨rfl, h0, h1, h2⟩
  have hsz : s.data.toList.length = s.size := by simp
  refine br_intro (fun hlt => ?_) (fun hge => ?_)
  · have hlt : x < s.size := by simpa using hlt
    have hx : x.toNat < s.data.toList.length := by omega
    have hg : s.data.toList.getD x.toNat 0 = s.data.toList[x.toNat] := by rw [List.getD_eq_getElem?_getD, List.getElem?_eq_getElem hx]; rfl
    refine ⟨h0, hlt, ?_⟩
    rw [hg]
    generalize hb : s.data.toList[x.toNat] = b
    refine br_intro (fun hn => ⟨?_, rfl⟩) (fun hn => ⟨inI64 (by omega) (by omega), ⟨rfl, by omega, by omega, ?_⟩, by omega⟩)
    · have hk : okB b.toNat = false := by
        unfold okB
        simp at hn ⊢
        omega
      unfold mayB
      have : (s.data.toList.all fun b => okB b.toNat) = false := by
        rw [List.all_eq_false]
        exact ⟨b, hb ▸ List.getElem_mem hx, by simp [hk]⟩
      rw [show bl s = s.data.toList from rfl, this]; rfl
    · have hk : okB b.toNat = true := by
        unfold okB
        simp at hn ⊢
        omega
      rw [show (x + 1).toNat = x.toNat + 1 by omega, List.take_add_one, List.all_append, h2, List.getElem?_eq_getElem hx, hb]
      simp [hk]
  · have hge : ¬ x < s.size := by simpa using hge
    rw [List.take_of_length_le (by omega)] at h2
    refine ⟨?_, rfl⟩
    unfold mayB
    rw [show bl s = s.data.toList from rfl, h2, hpre]; rfl
theorem awake_ok {V : View} (hg : Glo V) : CallV Tryd.prog 6 ⟨[]⟩ V fun r V' => r = .bool true ∧ V.Le V' := by
  refine f6_x (_u := ()) ?_
  unfold f6_n
  refine (pathSplit_ok (by decide) hg).mono ?_
  rintro r V1 ⟨⟨x, e, rfl, hr⟩, hle⟩
  have h1 : splitP (ByteArray.mk #[47, 97, 47, 98, 46, 99]) = some [ByteArray.mk #[97], ByteArray.mk #[98, 46, 99]] := by decide
  have h2 : lastP (ByteArray.mk #[47, 97, 47, 98, 46, 99]) = (ByteArray.mk #[47, 97], ByteArray.mk #[98, 46, 99], 0) := by decide
  have h3 : splitP (ByteArray.mk #[47, 97, 47]) = none := by decide
  have h4 : joinP1 [] = ByteArray.mk #[47] := by decide
  have h5 : mayB (ByteArray.mk #[46, 46]) = false := by decide
  rw [h1] at hr
  obtain ⟨rfl, hx⟩ := hr
  refine ⟨_, _, rfl, (pathLast_ok (by decide) (hg.mono hle)).mono ?_⟩
  rintro r V2 ⟨rfl, hle2⟩
  rw [h2]
  refine ⟨_, _, _, rfl, (pathSplit_ok (by decide) (hg.mono (hle.trans hle2))).mono ?_⟩
  rintro r V3 ⟨⟨y, e, rfl, hr⟩, hle3⟩
  rw [h3] at hr
  obtain ⟨rfl, rfl⟩ := hr
  refine ⟨_, _, rfl, joinP_cut (fun s V' => s.1 = true ∧ V.Le V') ?_ (fun s V' h => ⟨by rw [h.1], h.2⟩)⟩
  have hn := hx.n
  simp only [List.length_cons, List.length_nil] at hn
  have hle3' := hle.trans (hle2.trans hle3)
  obtain ⟨ad, h0, ha, hc, _⟩ := (hx.mono (hle2.trans hle3)).str (x := 1) (by omega) (by omega)
  rw [hn]
  refine br_intro (fun _ => ⟨by omega, by omega, ad, ha, _, hc, ?_⟩) (fun h => absurd h (by decide))
  refine br_intro (fun _ => ?_) (fun h => absurd h (by simp))
  refine (pathJoin_ok (SlR.nil V3 none 0) (by decide) (hg.mono hle3')).mono ?_
  rintro r V4 ⟨rfl, hle4⟩
  rw [h4]
  refine ⟨_, rfl, br_intro (fun _ => ?_) (fun h => absurd h (by simp))⟩
  refine (pathMay_ok (by decide)).mono ?_
  rintro r V5 ⟨rfl, rfl⟩
  rw [h5]
  exact ⟨_, rfl, rfl, hle3'.trans hle4⟩
/-- What ends in 'awake'. -/
theorem awakeJ {V V0 : View} (hle : V0.Le V) (hg : Glo V0) {Q : Bool → View → Prop} (hQ : ∀ V', V0.Le V' → Q true V') : CallV Tryd.prog 6 ⟨[]⟩ V fun r V' => ∃ x : Bool, r = .bool x ∧ Q x V' :=
  (awake_ok (hg.mono hle)).mono fun _ V' ⟨h1, h2⟩ => ⟨_, h1, hQ V' (hle.trans h2)⟩
theorem pathRaw_ok {s : ByteArray} {V : View} (hg : Glo V) : CallV Tryd.prog 3 ⟨[.string s]⟩ V fun r V' => r = .bool true ∧ V.Le V' := by
  refine f3_x ?_
  unfold f3_n
  refine br_intro (fun _ => awakeJ (View.Le.refl V) hg fun V' h => ⟨rfl, h⟩) (fun h => ?_)
  have hs : s.size ≤ 300 := by simp at h; omega
  refine (pathSplit_ok (by omega) hg).mono ?_
  rintro r V1 ⟨⟨x, e, rfl, hr⟩, hle⟩
  refine ⟨_, _, rfl, ?_⟩
  cases ho : splitP s with
  | none =>
    rw [ho] at hr
    obtain ⟨rfl, rfl⟩ := hr
    refine br_intro (fun _ => ?_) (fun h => absurd h (by decide))
    refine joinP_cut (fun s V' => s.1 = true ∧ V.Le V') ?_ (fun s V' h => ⟨by rw [h.1], h.2⟩)
    exact br_intro (fun _ => awakeJ hle hg fun V' h => ⟨rfl, h⟩) (fun h => absurd h (by decide))
  | some l =>
    rw [ho] at hr
    obtain ⟨rfl, hx⟩ := hr
    have hsp := splitP_some ho
    have hn := hx.n; have hlim := hx.lim
    refine br_intro (fun h => absurd h (by decide)) (fun _ => ?_)
    refine loop1 (k := .int .i64) (fun (i : Int) V' => V1.Le V' ∧ 0 ≤ i ∧ i ≤ x.n) (fun (i : Int) _ => x.n - i.toNat) ⟨View.Le.refl _, by omega, by omega⟩ ?_
    rintro (i : Int) V2 ⟨hle2, h0, h1⟩
    refine br_intro (fun hlt => ?_) (fun hge => ?_)
    · have hlt : i < x.n := by simpa using hlt
      obtain ⟨ad, hi, ha, hc, _⟩ := (hx.mono hle2).str h0 hlt
      have hm := List.all_eq_true.1 hsp.2.1 _ (List.getElem_mem hi)
      have hms := mayB_size hm
      refine ⟨h0, hlt, ad, ha, _, hc, (pathMay_ok (by omega)).mono ?_⟩
      rintro r V3 ⟨rfl, rfl⟩
      refine ⟨_, rfl, ?_⟩
      rw [hm]
      refine br_intro (fun h => ?_) (fun _ => ⟨inI64 (by omega) (by omega), ⟨hle2, by omega, by omega⟩, by omega⟩)
      simp at h; omega
    · refine joinP_cut (fun s V' => s.1 = true ∧ V.Le V') ?_ (fun s V' h => ⟨by rw [h.1], h.2⟩)
      have hj : (Lib.join (l.map bl) [47]).length ≤ 140737488355328 := by
        have h2 := congrArg List.length hsp.2.2
        rw [bl_len] at h2
        simp only [List.length_cons] at h2
        omega
      refine (pathJoin_ok (hx.mono hle2) hj (hg.mono (hle.trans hle2))).mono ?_
      rintro r V3 ⟨rfl, hle3⟩
      rw [joinP_of_split ho]
      refine ⟨_, rfl, br_intro (fun _ => awakeJ (hle.trans (hle2.trans hle3)) hg fun V' h => ⟨rfl, h⟩) (fun h => ?_)⟩
      have := hsp.1
      simp at h; omega
theorem splitP_bad {n : ByteArray} (hno : 47 ∉ bl n) (h1 : 1 ≤ n.size) (hm : mayB n = false) : splitP (ba [47] ++ n) = none := by
  unfold splitP
  rw [bl_append, bl_ba]
  simp only [List.singleton_append]
  by_cases h60 : (ba [47] ++ n).size ≤ 60
  · rw [if_pos ⟨trivial, h60⟩, if_neg, if_neg]
    · rw [splitS_no hno]
      simp [hm]
    · intro e
      rw [← bl_len, e] at h1
      simp at h1
  · rw [if_neg (fun h => h60 h.2)]
theorem pathLonger_ok {s n : ByteArray} {V : View} (hg : Glo V) : CallV Tryd.prog 5 ⟨[.string s, .string n]⟩ V fun r V' => r = .bool true ∧ V.Le V' := by
  refine f5_x ?_
  unfold f5_n
  refine br_intro (fun _ => awakeJ (View.Le.refl V) hg fun V' h => ⟨rfl, h⟩) (fun h => ?_)
  have hs : s.size ≤ 200 ∧ 1 ≤ n.size ∧ n.size ≤ 50 := by simp at h; omega
  refine loop1 (k := .int .i64) (fun (x : Int) V' => V' = V ∧ 0 ≤ x ∧ x ≤ n.size ∧ 47 ∉ n.data.toList.take x.toNat) (fun (x : Int) _ => n.size - x.toNat) ⟨rfl, by omega, by omega, by simp⟩ ?_
  rintro (x : Int) V' ⟨rfl, h0, h1, h2⟩
  have hsz : n.data.toList.length = n.size := by simp
  refine br_intro (fun hlt => ?_) (fun hge => ?_)
  · have hlt : x < n.size := by simpa using hlt
    have hx : x.toNat < n.data.toList.length := by omega
    have hgt : n.data.toList.getD x.toNat 0 = n.data.toList[x.toNat] := by rw [List.getD_eq_getElem?_getD, List.getElem?_eq_getElem hx]; rfl
    refine ⟨h0, hlt, ?_⟩
    rw [hgt]
    refine br_intro (fun _ => awakeJ (View.Le.refl V') hg fun V' h => ⟨rfl, h⟩) (fun hn => ⟨inI64 (by omega) (by omega), ⟨rfl, by omega, by omega, ?_⟩, by omega⟩)
    rw [show (x + 1).toNat = x.toNat + 1 by omega, List.take_add_one, List.mem_append, List.getElem?_eq_getElem hx]
    rintro (h | h)
    · exact h2 h
    · simp at h
      simp at hn
      apply hn
      rw [← h]; rfl
  have hge : ¬ x < n.size := by simpa using hge
  rw [List.take_of_length_le (by omega)] at h2
  have hno : 47 ∉ bl n := h2
  refine (pathSplit_ok (by omega) hg).mono ?_
  rintro r V1 ⟨⟨y, e, rfl, hr⟩, hle⟩
  have hone : (ByteArray.mk #[47] : ByteArray).size = 1 := rfl
  refine ⟨_, _, rfl, by omega, by rw [ByteArray.size_append, hone]; omega, joinP_cut (fun t V' => t.1 = longer s n ∧ V' = V1) ?_ ?_⟩
  · refine br_intro (fun h => ⟨by omega, ?_, rfl⟩) (fun h => ⟨?_, rfl⟩)
    · have h : s = ba [47] := of_decide_eq_true h
      show _ = longer s n
      unfold longer
      rw [if_pos h]; rfl
    · have h : ¬ s = ba [47] := of_decide_eq_false h
      show _ = longer s n
      unfold longer
      rw [if_neg h]; rfl
  rintro ⟨t, ⟨⟩⟩ V2 ⟨ht, hV⟩
  simp only at ht hV
  subst ht hV
  have htl : (longer s n).size ≤ 300 := by
    have e1 : (ba [47]).size = 1 := rfl
    unfold longer
    split
    · rw [ByteArray.size_append, e1]; omega
    · rw [ByteArray.size_append, ByteArray.size_append, e1]; omega
  refine (pathSplit_ok (by omega) (hg.mono hle)).mono ?_
  rintro r V3 ⟨⟨z, f, rfl, hz⟩, hle3⟩
  have hle3' := hle.trans hle3
  refine ⟨_, _, rfl, joinP_cut (fun b V' => b.1 = (decide (splitP s = none) || !mayB n || decide (60 < ((longer s n).size : Int))) ∧ V' = V3) ?_ ?_⟩
  · cases ho : splitP s with
    | none =>
      rw [ho] at hr
      obtain ⟨rfl, _⟩ := hr
      exact br_intro (fun _ => ⟨by simp, rfl⟩) (fun h => absurd h (by decide))
    | some l =>
      rw [ho] at hr
      obtain ⟨rfl, _⟩ := hr
      refine br_intro (fun h => absurd h (by decide)) (fun _ => (refName_ok (by omega)).mono ?_)
      rintro r V4 ⟨rfl, rfl⟩
      refine ⟨_, rfl, ?_, rfl⟩
      cases mayB n <;> simp
  rintro ⟨b, ⟨⟩⟩ V4 ⟨hb, hV⟩
  simp only at hb hV
  subst hb hV
  simp only [unc]
  cases ho : splitP s with
  | none =>
    rw [ho] at hr
    obtain ⟨rfl, _⟩ := hr
    refine br_intro (fun _ => ?_) (fun h => absurd h (by simp))
    refine joinP_cut (fun s W => s.1 = true ∧ V'.Le W) ?_ (fun s W h => ⟨by rw [h.1], h.2⟩)
    refine br_intro (fun _ => ?_) (fun h => absurd h (by decide))
    refine br_intro (fun _ => awakeJ hle3' hg fun V5 h5 => ⟨rfl, h5⟩) (fun hs0 => ?_)
    have hs0 : s = ByteArray.mk #[] := by simpa using hs0
    refine (refName_ok (by omega)).mono ?_
    rintro r V5 ⟨rfl, rfl⟩
    refine ⟨_, rfl, ?_⟩
    have hb : (bif mayB n then true else decide (f = 7)) = true := by
      cases hm : mayB n with
      | true => rfl
      | false =>
        have e1 : longer s n = ba [47] ++ n := by
          unfold longer
          rw [hs0, if_neg (by decide)]
          rfl
        rw [e1, splitP_bad hno (by omega) hm] at hz
        simp [hz.1]
    rw [hb]
    exact awakeJ hle3' hg fun V5 h5 => ⟨rfl, h5⟩
  | some l =>
    rw [ho] at hr
    obtain ⟨rfl, hy⟩ := hr
    have hlong := splitP_longer hno (by omega) ho
    refine br_intro (fun hb => ?_) (fun hb => ?_)
    · have hnone : splitP (longer s n) = none := by
        rw [hlong, if_neg]
        rintro ⟨h3, h4⟩
        rw [h3] at hb
        simp at hb
        omega
      rw [hnone] at hz
      obtain ⟨rfl, rfl⟩ := hz
      refine joinP_cut (fun s W => s.1 = true ∧ V'.Le W) ?_ (fun s W h => ⟨by rw [h.1], h.2⟩)
      refine br_intro (fun h => absurd h (by decide)) (fun _ => ?_)
      exact br_intro (fun _ => awakeJ hle3' hg fun V5 h5 => ⟨rfl, h5⟩) (fun h => absurd h (by decide))
    · have hsome : splitP (longer s n) = some (l ++ [n]) := by
        rw [hlong, if_pos]
        simp at hb
        exact ⟨hb.1, by omega⟩
      rw [hsome] at hz
      obtain ⟨rfl, hz⟩ := hz
      have hlast : lastP (longer s n) = (s, n, 0) := by
        unfold lastP
        rw [hsome]
        simp only
        rw [dif_neg (by simp)]
        simp [joinP_of_split ho]
      refine (pathLast_ok (by omega) (hg.mono hle3')).mono ?_
      rintro r V5 ⟨rfl, hle5⟩
      rw [hlast]
      refine ⟨_, _, _, rfl, joinP_cut (fun s W => s.1 = true ∧ V'.Le W) ?_ (fun s W h => ⟨by rw [h.1], h.2⟩)⟩
      have hyn := hy.n; have hzn := hz.n; have hyl := hy.lim
      simp only [List.length_append, List.length_cons, List.length_nil] at hzn
      refine br_intro (fun _ => ⟨inI64 (by omega) (by omega), ?_⟩) (fun h => absurd h (by decide))
      refine br_intro (fun _ => ?_) (fun h => absurd h (by simp; omega))
      obtain ⟨ad, hi, ha, hc, _⟩ := (hz.mono hle5).str (x := (y.n : Int)) (by omega) (by omega)
      refine ⟨by omega, by omega, ad, ha, _, hc, ?_⟩
      have e1 : (l ++ [n])[((y.n : Int)).toNat] = n := by
        rw [List.getElem_append_right (by omega)]
        simp
      rw [e1]
      exact br_intro (fun _ => awakeJ (hle3'.trans hle5) hg fun V5 h5 => ⟨rfl, h5⟩) (fun h => absurd h (by simp))
theorem wrap_u64 (a : Int) : 0 ≤ IntKind.u64.wrap a := by
  unfold IntKind.wrap
  simp [IntKind.signed, IntKind.bits]
  omega
theorem rep_app (n : Nat) (l : List UInt8) : ba (List.replicate n l).flatten ++ ba l = ba (List.replicate (n + 1) l).flatten := by
  rw [ba_append, List.replicate_succ', List.flatten_append]
  simp
theorem bounds1 : ∀ m : Nat, m < 12 → mayB (ba (List.replicate m [97]).flatten) = (decide (1 ≤ m) && decide (m ≤ 8)) := by decide
theorem bounds2 : ∀ m : Nat, m < 12 → (splitP (ba (List.replicate m [47, 97, 98, 99, 100, 101, 102, 103]).flatten)).isSome = (decide (1 ≤ m) && decide (m * 8 ≤ 60)) := by decide
theorem bounds3 : mayB (ByteArray.mk #[46]) = false ∧ mayB (ByteArray.mk #[46, 46, 46]) = true := by decide
theorem bounds4 (c : UInt8) : mayB (ByteArray.mk #[120] ++ ba [c]) = okB c.toNat := by
  have e : ByteArray.mk #[120] ++ ba [c] = ba [120, c] := ba_append [120] [c]
  rw [e]
  unfold mayB
  have h1 : (ba [120, c]).size = 2 := rfl
  have h2 : ¬ ba [120, c] = ByteArray.mk #[46] := fun h => by
    have := congrArg ByteArray.size h
    cases this
  have h3 : ¬ ba [120, c] = ByteArray.mk #[46, 46] := fun h => by
    have := congrArg bl h
    simp [bl] at this
  have h4 : okB 120 = true := by decide
  simp [h1, h2, h3, h4]
theorem pathBounds_ok {a : Int} {c : UInt8} {V : View} (hg : Glo V) : CallV Tryd.prog 4 ⟨[.int .i64 a, .int .u8 c.toNat]⟩ V fun r V' => r = .bool true ∧ V.Le V' := by
  refine f4_x ?_
  unfold f4_n
  obtain ⟨m, hm, hmlt⟩ : ∃ m : Nat, Int.tmod (IntKind.u64.wrap a) 12 = (m : Int) ∧ m < 12 := by
    have h1 := wrap_u64 a
    have h2 := Int.tmod_nonneg 12 h1
    have h3 := Int.tmod_lt_of_pos (IntKind.u64.wrap a) (b := 12) (by decide)
    exact ⟨(Int.tmod (IntKind.u64.wrap a) 12).toNat, by omega, by omega⟩
  rw [hm]
  refine ⟨by decide, inI64 (by omega) (by omega), ?_⟩
  refine loop2 (k := .str) (l := .int .i64) (fun (x : ByteArray) (i : Int) V' => V' = V ∧ 0 ≤ i ∧ i ≤ m ∧ x = ba (List.replicate i.toNat [97]).flatten) (fun _ (i : Int) _ => m - i.toNat) ⟨rfl, by omega, by omega, rfl⟩ ?_
  rintro (x : ByteArray) (i : Int) V' ⟨rfl, h0, h1, rfl⟩
  refine br_intro (fun hlt => ?_) (fun hge => ?_)
  · have hlt : i < m := by simpa using hlt
    refine ⟨by rw [ba_size]; simp; omega, inI64 (by omega) (by omega), ⟨rfl, by omega, by omega, ?_⟩, by omega⟩
    rw [show (i + 1).toNat = i.toNat + 1 by omega]
    exact rep_app _ _
  have hge : ¬ i < m := by simpa using hge
  have hi : i.toNat = m := by omega
  rw [hi]
  refine loop2 (k := .str) (l := .int .i64) (fun (x : ByteArray) (i : Int) V1 => V1 = V' ∧ 0 ≤ i ∧ i ≤ m ∧ x = ba (List.replicate i.toNat [47, 97, 98, 99, 100, 101, 102, 103]).flatten) (fun _ (i : Int) _ => m - i.toNat) ⟨rfl, by omega, by omega, rfl⟩ ?_
  rintro (x : ByteArray) (j : Int) V1 ⟨rfl, k0, k1, rfl⟩
  refine br_intro (fun hlt => ?_) (fun hge => ?_)
  · have hlt : j < m := by simpa using hlt
    refine ⟨by rw [ba_size]; simp; omega, inI64 (by omega) (by omega), ⟨rfl, by omega, by omega, ?_⟩, by omega⟩
    rw [show (j + 1).toNat = j.toNat + 1 by omega]
    exact rep_app _ _
  have hge : ¬ j < m := by simpa using hge
  have hj : j.toNat = m := by omega
  rw [hj]
  have hsz : (ba (List.replicate m [47, 97, 98, 99, 100, 101, 102, 103]).flatten).size = m * 8 := by rw [ba_size]; simp
  refine (pathSplit_ok (by omega) hg).mono ?_
  rintro r V2 ⟨⟨y, e, rfl, hr⟩, hle⟩
  refine ⟨_, _, rfl, joinP_cut (fun s V' => s.1 = true ∧ V1.Le V') ?_ (fun s V' h => ⟨by rw [h.1], h.2⟩)⟩
  refine (pathMay_ok (by rw [ba_size]; simp; omega)).mono ?_
  rintro r V3 ⟨rfl, rfl⟩
  refine ⟨_, rfl, ?_⟩
  rw [bounds1 m hmlt]
  have b1 : ((decide (1 ≤ m) && decide (m ≤ 8)) == (bif decide ((1 : Int) ≤ (m : Int)) then decide ((m : Int) ≤ 8) else false)) = true := by
    by_cases q1 : 1 ≤ m
    · by_cases q2 : m ≤ 8
      · simp [q1, q2]; omega
      · simp [q1, q2]; omega
    · simp [q1]; omega
  rw [b1]
  intro r hr0
  have hfr : V3.see r = none := View.see_none_of_ge hr0
  have hle4 : V3.Le (V3.put r (.cells ⟨putL [Value.int .u8 0] 0 [Value.int .u8 c.toNat]⟩ 5)) := View.put_le hfr
  refine ⟨ba [c], ⟨rfl, cellsAt_of_see (View.see_put_same _ _ _) fun j v hj => ?_⟩, by rw [ba_size]; simp, ?_⟩
  · cases j with
    | succ j => simp [bytesV, ba] at hj
    | zero => simpa [bytesV, ba, putL] using hj
  refine (pathMay_ok (by rw [ByteArray.size_append, ba_size]; exact (by decide : 1 + 1 < 2 ^ 62))).mono ?_
  rintro r4 V4 ⟨rfl, rfl⟩
  refine ⟨_, rfl, ?_⟩
  rw [bounds4]
  have b2 : okB c.toNat = (bif bif bif bif bif decide ((97 : Int) ≤ (c.toNat : Int)) then decide ((c.toNat : Int) ≤ 122) else false then true else bif decide ((48 : Int) ≤ (c.toNat : Int)) then decide ((c.toNat : Int) ≤ 57) else false then true else decide ((c.toNat : Int) = 46) then true else decide ((c.toNat : Int) = 95) then true else decide ((c.toNat : Int) = 45)) := by
    unfold okB
    rw [Bool.eq_iff_iff]
    simp
    omega
  rw [← b2]
  have b3 : (okB c.toNat == okB c.toNat) = true := by simp
  rw [b3]
  have b4 : (decide (e = 0) == bif decide ((1 : Int) ≤ (m : Int)) then decide (((ba (List.replicate m [47, 97, 98, 99, 100, 101, 102, 103]).flatten).size : Int) ≤ 60) else false) = true := by
    rw [hsz]
    have h2 := bounds2 m hmlt
    have h3 : decide (e = 0) = (splitP (ba (List.replicate m [47, 97, 98, 99, 100, 101, 102, 103]).flatten)).isSome := by
      cases ho : splitP (ba (List.replicate m [47, 97, 98, 99, 100, 101, 102, 103]).flatten) with
      | none => rw [ho] at hr; simp [hr.1]
      | some l => rw [ho] at hr; simp [hr.1]
    rw [h3, h2]
    by_cases q1 : 1 ≤ m
    · by_cases q2 : m * 8 ≤ 60
      · simp [q1, q2]; omega
      · simp [q1, q2]; omega
    · simp [q1]; omega
  rw [b4]
  refine (pathMay_ok (by decide)).mono ?_
  rintro r5 V5 ⟨rfl, rfl⟩
  rw [bounds3.1]
  refine ⟨_, rfl, (pathMay_ok (by decide)).mono ?_⟩
  rintro r6 V6 ⟨rfl, rfl⟩
  rw [bounds3.2]
  exact ⟨_, rfl, awakeJ (hle.trans hle4) hg fun V7 h7 => ⟨rfl, h7⟩⟩
end Go.Proofs.YtpmoliahcgfkgaaDoor
