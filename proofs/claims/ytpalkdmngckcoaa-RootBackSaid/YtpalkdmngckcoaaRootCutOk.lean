/- RootCut: bytes that are cut short, or have one more behind, are no tree. -/
import Derived.Test.YtpalkdmngckcoaaAwakeOk
import Derived.Test.YtpalkdmngckcoaaRefMayOk
import Derived.Test.YtpalkdmngckcoaaBackLaw
namespace Go.Proofs.Ytpalkdmngckcoaa
open Go
theorem wrap_u64_nn (a : Int) : 0 ≤ IntKind.u64.wrap a := by
  unfold IntKind.wrap
  simp [IntKind.signed, IntKind.bits]
  omega
theorem wrap_u64_id {a : Int} (h0 : 0 ≤ a) (h1 : a ≤ 9223372036854775807) : IntKind.u64.wrap a = a := by
  unfold IntKind.wrap
  simp [IntKind.signed, IntKind.bits]
  omega
theorem rootCut_ok {s : Sl} {t : Tre} {at' : Int} {c : UInt8} {V : View} (h : SlR V s t) : CallV Try.prog 4 ⟨[treV s, .int .i64 at', .int .u8 c.toNat]⟩ V fun r V' => r = .bool true ∧ V.Le V' := by
  refine f4_x ?_
  unfold f4_n
  refine fun _ => joinP_cut (fun q V' => (q.1 = false → mayT t = true) ∧ V.Le V') ((light15_ok h).mono ?_) ?_
  · rintro r V1 ⟨x, rfl, _, _, _, rfl⟩
    refine ⟨x, rfl, br_intro (fun _ => ⟨fun h => (by cases h), View.Le.refl _⟩) (fun _ => (mayTree_ok h).mono ?_)⟩
    rintro r V2 ⟨rfl, hV2⟩
    exact ⟨_, rfl, fun h => not_f h, hV2⟩
  rintro ⟨q, ⟨⟩⟩ V1 ⟨hq, hV1⟩
  simp only at hq
  dsimp only [unc]
  refine br_intro (fun _ => awakeJ hV1 fun V' hV => ⟨rfl, hV⟩) (fun hb => ?_)
  have hM := hq hb
  refine (bytes_ok (h.mono hV1)).mono ?_
  rintro r V2 ⟨x, e, rfl, hx, hV2⟩
  rw [hM] at hx
  obtain ⟨hx, rfl⟩ := hx
  obtain ⟨h12, hall, _⟩ := mayT_facts hM
  have hpos := encT_pos hM
  have hlen := encT_len hall
  have hxn := hx.n
  have hxc := hx.c
  refine ⟨x, _, rfl, br_intro (fun hb => ?_) (fun _ => ?_)⟩
  · exfalso
    have : ¬ ((x.n : Nat) : Int) = 0 := by omega
    rw [decide_eq_false this] at hb
    cases hb
  have hw : IntKind.u64.wrap (x.n : Int) = (x.n : Int) := wrap_u64_id (by omega) (by omega)
  rw [hw]
  have hu := wrap_u64_nn at'
  generalize IntKind.u64.wrap at' = u at *
  obtain ⟨m, hm⟩ : ∃ m : Nat, Int.tmod u (x.n : Int) = m := ⟨(Int.tmod u (x.n : Int)).toNat, by
    have := Int.tmod_nonneg (x.n : Int) hu
    omega⟩
  have hmlt : m < x.n := by
    have := Int.tmod_lt_of_pos u (show (0 : Int) < (x.n : Int) by omega)
    omega
  rw [hm]
  have e2 : (if x.c = 0 then x.a else Option.map (fun (x : Addr) => x.add 0) x.a) = x.a := by rw [map_add_zero]; simp
  rw [e2, Nat.sub_zero, Nat.sub_zero, Int.toNat_natCast]
  refine ⟨by omega, inI64 (by omega) (by omega), by omega, by omega, by omega, (parse_ok (hx.take (j := m) (by omega)) (by simp; omega)).mono ?_⟩
  rintro r V3 ⟨y, e, rfl, hy, hV3⟩
  rw [parseT_cut hM (by omega)] at hy
  obtain ⟨rfl, rfl⟩ := hy
  have hx3 := hx.mono hV3
  refine ⟨⟨none, 0, 0⟩, 5, rfl, fun _ => fun r hr => ?_⟩
  have hfr := View.see_none_of_ge hr
  have hbuf : Buf (V3.put r (.cells ⟨[]⟩ 5 (0, 0))) ⟨some ⟨r, 0, none⟩, 0, 0⟩ 5 1 [] := ⟨rfl, Nat.le_refl _, Nat.zero_le _, .inr ⟨r, [], rfl, View.see_put_same _ _ _, rfl, rfl⟩⟩
  have hle : V3.Le ((V3.put r (.cells ⟨[]⟩ 5 (0, 0))).minus ⟨some ⟨r, 0, none⟩, 0, 0⟩) := put_le_hide hfr (View.Le.refl _)
  generalize (V3.put r (.cells ⟨[]⟩ 5 (0, 0))) = W at *
  have hW : V3.Le W := hle.trans (View.minus_le _ _)
  refine apV_buf rfl hbuf (src := u8s (encT t)) (m := x.n) ⟨rfl, (hx3.mono hW).row8⟩ (by rw [u8s_len, hxn, Nat.mul_one]) (u8s_one _) (by show (0 + x.n) * 1 ≤ _; omega) (by show 0 + x.n ≤ _; omega) fun s4 V4 hb4 hn4 hle4 => ?_
  intro r5 hr5
  have hfr5 := View.see_none_of_ge hr5
  refine apV_buf rfl (hb4.put hfr5) (src := u8s [c]) (m := 1) ⟨rfl, rowAt_new (View.see_put_same _ _ _) rfl⟩ rfl (u8s_one _) (by show (s4.n + 1) * 1 ≤ _; rw [hn4]; show (0 + x.n + 1) * 1 ≤ _; omega) (by show s4.n + 1 ≤ _; rw [hn4]; show 0 + x.n + 1 ≤ _; omega) fun s6 V6 hb6 hn6 hle6 => ?_
  have hV36 : V3.Le V6 := ((hle.trans hle4).trans ((put_minus_le hfr5).trans hle6)).trans (View.minus_le _ _)
  have hs6 : SlR V6 s6 (encT t ++ [c]) := by
    rw [List.nil_append, ← u8s_append] at hb6
    exact hb6.slR (W := V6) (u8s_rep _) (View.Le.refl _)
  refine (parse_ok hs6 (by simp; omega)).mono ?_
  rintro r V7 ⟨z, e, rfl, hz, hV7⟩
  rw [parseT_more hM] at hz
  obtain ⟨rfl, rfl⟩ := hz
  have hV07 := (((hV1.trans hV2).trans hV3).trans hV36).trans hV7
  refine ⟨⟨none, 0, 0⟩, 5, rfl, fun _ => joinP_cut (fun q V' => q.1 = true ∧ V.Le V') (br_intro (fun _ => awakeJ hV07 fun V' hV => ⟨rfl, hV⟩) (fun h => absurd h (by decide))) ?_⟩
  rintro ⟨q, ⟨⟩⟩ V8 ⟨h1, hV⟩
  simp only at h1 hV
  subst h1
  exact ⟨rfl, hV⟩
end Go.Proofs.Ytpalkdmngckcoaa
