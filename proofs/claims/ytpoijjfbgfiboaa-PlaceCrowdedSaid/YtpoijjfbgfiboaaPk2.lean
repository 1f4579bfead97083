/- Texts joined: TellsOk, Place1Ok, Place2Ok, Place3Ok, In, PlIn. -/
import Derived.Test.YtpoijjfbgfiboaaPk1
/- Contracts: what a table tells; the law that every program must know. -/
namespace Go.Proofs.Ytpoijjfbgfiboaa
open Go Go.Shelf Go.RowKit Go.Lib Go.Sort
theorem srt_ins {m : PL} {f : P2 × P2} {i : Nat} (h : Srt m) (h1 : ∀ p ∈ m.take i, ltOf ordP p f = true) (h2 : ∀ hi : i < m.length, ltOf ordP m[i] f = false) : Srt (insAt m i f) ∧ (insAt m i f).Perm (m ++ [f]) := by
  constructor
  · unfold insAt Srt
    rw [List.append_assoc, List.pairwise_append]
    refine ⟨List.Pairwise.sublist (List.take_sublist _ _) h, ?_, ?_⟩
    · rw [List.singleton_append, List.pairwise_cons]
      refine ⟨fun q hq => ?_, List.Pairwise.sublist (List.drop_sublist _ _) h⟩
      obtain ⟨j, hj, rfl⟩ := List.mem_iff_getElem.1 hq
      rw [List.length_drop] at hj
      rw [List.getElem_drop]
      have h3 := h2 (by omega)
      by_cases h0 : j = 0
      · subst h0; exact h3
      · have h4 := List.pairwise_iff_getElem.1 h i (i + j) (by omega) (by omega) (by omega)
        rw [ordP_lt] at *
        have := of_decide_eq_false h3; have := of_decide_eq_false h4
        exact decide_eq_false (by omega)
    · intro p hp q hq
      have h3 := h1 p hp
      rw [List.singleton_append, List.mem_cons] at hq
      rcases hq with rfl | hq
      · rw [ordP_lt] at *
        have := of_decide_eq_true h3
        exact decide_eq_false (by omega)
      · obtain ⟨j, hj, rfl⟩ := List.mem_iff_getElem.1 hq
        obtain ⟨k, hk, rfl⟩ := List.mem_iff_getElem.1 hp
        rw [List.length_drop] at hj
        rw [List.length_take] at hk
        rw [List.getElem_drop, List.getElem_take]
        exact List.pairwise_iff_getElem.1 h k (i + j) (by omega) (by omega) (by omega)
  · unfold insAt
    have e : m ++ [f] = m.take i ++ m.drop i ++ [f] := by rw [List.take_append_drop]
    rw [e, List.append_assoc, List.append_assoc]
    exact List.Perm.append_left _ List.perm_append_comm
theorem tells_ok {V0 V : View} {t ra rb : Nat} {l w : PL} {x : Sl} (h : PT V0 V t ra rb l) (hp : w.Perm l) (hx : SlR V x w) (hn : l.length ≤ 1000000) (s : P2) (k : Int) :
    CallV Try.prog 15 ⟨[.pointer (some ⟨t, 0, none⟩), .slice x.a x.n x.c, encP s, .int .i64 k]⟩ V fun r V' => r = .bool true ∧ V.Le V' := by
  refine f15_x ?_
  unfold f15_n
  have hxn := hx.n; have hwl := hp.length_eq
  intro _
  refine loop3 (k := .sl) (l := .sl) (n := .int .i64) (fun (a b : Sl) (i : Int) V' => V.Le V' ∧ 0 ≤ i ∧ i ≤ w.length ∧ ∃ ma mb : PL, SlR V' a ma ∧ SlR V' b mb ∧ Srt ma ∧ Srt mb ∧ ma.Perm (w.take i.toNat) ∧ mb.Perm (inB k (w.take i.toNat))) (fun _ _ (i : Int) _ => w.length - i.toNat)
    ⟨View.Le.refl _, by omega, by omega, [], [], SlR.nil _ _ _, SlR.nil _ _ _, .nil, .nil, by simp, by simp [inB]⟩ ?_
  rintro a b (i : Int) V' ⟨hV, h0, h1, ma, mb, ga, gb, sa, sb, pa, pb⟩
  have hla := pa.length_eq; have hlb := pb.length_eq
  have hlb2 := inB_len k (w.take i.toNat)
  rw [List.length_take] at hla hlb2
  refine br_intro (fun hlt => ?_) (fun hge => ?_)
  · have hlt : i < x.n := by simpa using hlt
    obtain ⟨ad, hi, ha, hc⟩ := (hx.mono hV).fnd h0 hlt
    have htk : w.take (i + 1).toNat = w.take i.toNat ++ [w[i.toNat]] := by
      rw [show (i + 1).toNat = i.toNat + 1 by omega, List.take_add_one, List.getElem?_eq_getElem hi]; rfl
    refine ⟨h0, hlt, ad, ha, _, _, _, _, hc, fun _ => (insert_ok ga (by omega) w[i.toNat]).mono ?_⟩
    rintro r V1 ⟨y, j, rfl, _, q1, q2, q3, q4⟩
    obtain ⟨s1, s2⟩ := srt_ins sa q1 q2
    have p1 : (insAt ma j w[i.toNat]).Perm (w.take (i + 1).toNat) := by rw [htk]; exact s2.trans (pa.append_right _)
    refine ⟨y, rfl, joinP_cut (fun z V2 => V1.Le V2 ∧ ∃ mb : PL, SlR V2 z.1 mb ∧ Srt mb ∧ mb.Perm (inB k (w.take (i + 1).toNat))) (br_intro (fun hq => ?_) (fun hq => ?_)) ?_⟩
    · have hq : w[i.toNat].2.1 = k := by simpa using hq
      refine (insert_ok (gb.mono q4) (by omega) w[i.toNat]).mono ?_
      rintro r V2 ⟨z, j2, rfl, _, u1, u2, u3, u4⟩
      obtain ⟨s3, s4⟩ := srt_ins sb u1 u2
      refine ⟨z, rfl, u4, _, u3, s3, ?_⟩
      rw [htk, inB_snoc, if_pos hq]
      exact s4.trans (pb.append_right _)
    · have hq : ¬ w[i.toNat].2.1 = k := by simpa using hq
      refine ⟨View.Le.refl _, mb, gb.mono q4, sb, ?_⟩
      rw [htk, inB_snoc, if_neg hq]; exact pb
    · rintro ⟨z, ⟨⟩⟩ V2 ⟨u1, mb2, u2, u3, u4⟩
      dsimp only [unc] at *
      exact ⟨inI64 (by omega) (by omega), ⟨(hV.trans q4).trans u1, by omega, by omega, _, mb2, q3.mono u1, u2, s1, u3, p1, u4⟩, by omega⟩
  · have hge : ¬ i < x.n := by simpa using hge
    rw [List.take_of_length_le (by omega)] at pa pb
    have hun := h.tab.uni.b
    refine joinP_cut (fun z V2 => z.1 = true ∧ V.Le V2) ((all_p (h.mono hV) hn).mono ?_) ?_
    · rintro r V1 ⟨y, m, rfl, u1, u2, u3, u4⟩
      have em : m = ma := srt_one ((u1.map Prod.snd).nodup_iff.2 hun) (u1.trans (hp.symm.trans pa.symm)) u2 sa
      subst em
      refine ⟨y, rfl, (same_ok (u3.mono (View.off_le _ _ _)) (ga.mono u4)).mono ?_⟩
      rintro r V2 ⟨rfl, rfl⟩
      refine ⟨_, rfl, br_intro (fun _ => (in_ok (h.mono (hV.trans u4)).tab hn k).mono ?_) (fun h => absurd h (by decide))⟩
      rintro r V3 ⟨z, m2, rfl, v1, v2, v3, v4⟩
      have pm2 : (inB k m2).Perm mb := (inB_perm (v1.trans hp.symm)).trans pb.symm
      have em2 : inB k m2 = mb := srt_one (((((v1.map Prod.snd).nodup_iff.2 hun).sublist (List.filter_sublist.map _)))) pm2 (v2.filter _) sb
      rw [em2] at v3
      refine ⟨z, rfl, (same_ok v3 (gb.mono (u4.trans v4))).mono ?_⟩
      rintro r V4 ⟨rfl, rfl⟩
      refine ⟨_, rfl, br_intro (fun _ => (live_ok (h.mono ((hV.trans u4).trans v4)).tab hn k).mono ?_) (fun h => absurd h (by decide))⟩
      rintro r V5 ⟨rfl, v5⟩
      refine ⟨_, rfl, decide_eq_true ?_, ((hV.trans u4).trans v4).trans v5⟩
      rw [gb.n, pb.length_eq, (inB_perm hp).length_eq]
    · rintro ⟨z, ⟨⟩⟩ V2 ⟨u1, u2⟩
      dsimp only [unc] at *
      exact ⟨by rw [u1], u2⟩
theorem awake_ok {V : View} : CallV Try.prog 8 ⟨[]⟩ V fun r V' => r = .bool true ∧ V.Le V' := by
  refine f8_x (_u := ()) ?_
  unfold f8_n
  refine (new_p (View.Le.refl V)).mono ?_
  rintro r V1 ⟨t, ra, rb, rfl, h1, _⟩
  refine ⟨_, rfl, (put_p h1 (1, 2) (3, 1)).mono ?_⟩
  rintro r V2 ⟨rfl, h2, _⟩
  refine ⟨_, rfl, (put_p h2 (2, 1) (3, 1)).mono ?_⟩
  rintro r V3 ⟨rfl, h3, _⟩
  refine ⟨_, rfl, (put_p h3 (2, 1) (3, 0)).mono ?_⟩
  rintro r V4 ⟨rfl, h4, _⟩
  have e : putT (2, 1) (3, 0) (putT (2, 1) (3, 1) (putT (1, 2) (3, 1) [])) = [((1, 2), (3, 1)), ((2, 1), (3, 0))] := by decide
  have c1 : canP (1, 2) (3, 1) [] = true := by decide
  have c2 : canP (2, 1) (3, 1) (putT (1, 2) (3, 1) []) = false := by decide
  have c3 : canP (2, 1) (3, 0) (putT (2, 1) (3, 1) (putT (1, 2) (3, 1) [])) = true := by decide
  rw [e] at h4
  rw [c1, c2, c3]
  refine ⟨_, rfl, (in_ok h4.tab (by decide) 3).mono ?_⟩
  rintro r V5 ⟨y, m, rfl, u1, u2, u3, u4⟩
  have em : m = [((2, 1), (3, 0)), ((1, 2), (3, 1))] := srt_one ((u1.map Prod.snd).nodup_iff.2 h4.tab.uni.b) (u1.trans (List.Perm.swap _ _ _)) u2 (by unfold Srt; decide)
  subst em
  have u3 : SlR V5 y ([((2, 1), (3, 0)), ((1, 2), (3, 1))] : PL) := u3
  have hyn : y.n = 2 := u3.n
  have h5 := h4.mono u4
  refine ⟨y, rfl, joinP_cut (fun z V2 => z.1 = true ∧ V.Le V2) (br_intro (fun _ => (live_ok h5.tab (by decide) 3).mono ?_) (fun h => absurd h (by decide))) ?_⟩
  · rintro r V6 ⟨rfl, v1⟩
    refine ⟨_, rfl, br_intro (fun _ => ?_) (fun h => absurd h (by rw [hyn]; decide))⟩
    obtain ⟨ad, hi, ha, hc⟩ := (u3.mono v1).fnd (x := 0) (by decide) (by omega)
    refine ⟨by decide, by omega, ad, ha, 2, ?_, br_intro (fun _ => (len_ok (h5.mono v1).tab).mono ?_) (fun h => absurd h (by decide))⟩
    · rw [Addr.add_zero]; exact hc 0 _ rfl
    · rintro r V7 ⟨rfl, rfl⟩
      exact ⟨_, rfl, rfl, (h5.mono v1).base⟩
  · rintro ⟨z, ⟨⟩⟩ V2 ⟨u1, u2⟩
    dsimp only [unc] at *
    exact ⟨by rw [u1], u2⟩
end Go.Proofs.Ytpoijjfbgfiboaa

/- PlaceNil, PlaceCrowded, PlaceEmpty, PlaceMoves: each answers true. -/
namespace Go.Proofs.Ytpoijjfbgfiboaa
open Go Go.Shelf Go.RowKit Go.Lib Go.Sort
abbrev CallQ := Int × P2 × P2
instance : Rep CallQ where
  sz := 5
  pos := by decide
  rep _ vs c := vs = [.int .i64 c.1, .int .i64 c.2.1.1, .int .i64 c.2.1.2, .int .i64 c.2.2.1, .int .i64 c.2.2.2]
  len h := by rw [h]; rfl
  one h := by rw [h]; rfl
  mono _ h := h
theorem SlR.callq {V : View} {s : Sl} {l : List CallQ} (h : SlR V s l) {x : Int} (h0 : 0 ≤ x) (hx : x < s.n) : ∃ ad, ∃ hl : x.toNat < l.length, s.a = some ad ∧ cellsAt V (ad.add (x.toNat * 5)) [.int .i64 l[x.toNat].1, .int .i64 l[x.toNat].2.1.1, .int .i64 l[x.toNat].2.1.2, .int .i64 l[x.toNat].2.2.1, .int .i64 l[x.toNat].2.2.2] := by
  obtain ⟨ad, vs, hl, ha, hc, hr⟩ := h.ld h0 hx
  have hr : vs = [.int .i64 l[x.toNat].1, .int .i64 l[x.toNat].2.1.1, .int .i64 l[x.toNat].2.1.2, .int .i64 l[x.toNat].2.2.1, .int .i64 l[x.toNat].2.2.2] := hr
  subst hr
  exact ⟨ad, hl, ha, hc⟩
theorem delP_len (k : P2) (l : PL) : (delP k l).length ≤ l.length := List.length_filter_le _ _
theorem putT_len (k s : P2) (l : PL) : (putT k s l).length ≤ l.length + 1 := by
  unfold putT
  split
  · rw [List.length_append]; have := delP_len k l; simp; omega
  · omega
theorem awakeJ {V V0 : View} (hle : V0.Le V) {Q : Bool → View → Prop} (hQ : ∀ V', V0.Le V' → Q true V') : CallV Try.prog 8 ⟨[]⟩ V fun r V' => ∃ x : Bool, r = .bool x ∧ Q x V' :=
  awake_ok.mono fun _ V' h => ⟨true, h.1, hQ V' (hle.trans h.2)⟩
theorem placeNil_ok {V : View} (d : Int) (r s : P2) (k : Int) : CallV Try.prog 4 ⟨[.agg ⟨[.int .i64 d, .int .i64 r.1, .int .i64 r.2, .int .i64 s.1, .int .i64 s.2]⟩, .int .i64 k]⟩ V fun r V' => r = .bool true ∧ V.Le V' := by
  refine f4_x ?_
  unfold f4_n
  refine fun _ => (at_nil r).mono ?_
  rintro q V1 ⟨rfl, rfl⟩
  refine ⟨_, _, _, rfl, fun _ => (on_nil s).mono ?_⟩
  rintro q V1 ⟨rfl, rfl⟩
  refine ⟨_, _, _, rfl, fun _ => joinP_cut (fun z V2 => z.1 = true ∧ V1.Le V2) ((put_nil r s).mono ?_) ?_⟩
  · rintro q V1 ⟨rfl, rfl⟩
    refine ⟨_, rfl, br_intro (fun _ => (cut_nil r).mono ?_) (fun h => absurd h (by decide))⟩
    rintro q V1 ⟨rfl, rfl⟩
    refine ⟨_, rfl, br_intro (fun _ => ⟨trivial, br_intro (fun _ => ⟨trivial, br_intro (fun _ => (live_nil k).mono ?_) (fun h => absurd h (by decide))⟩) (fun h => absurd h (by decide))⟩) (fun h => absurd h (by decide))⟩
    rintro q V2 ⟨rfl, v1⟩
    refine ⟨_, rfl, br_intro (fun _ => (in_nil k).mono ?_) (fun h => absurd h (by decide))⟩
    rintro q V3 ⟨y, rfl, v0, v2⟩
    refine ⟨y, rfl, br_intro (fun _ => all_nil.mono ?_) (fun h => absurd h (by rw [v0]; decide))⟩
    rintro q V3 ⟨rfl, rfl⟩
    refine ⟨⟨none, 0, 0⟩, rfl, br_intro (fun _ => len_nil.mono ?_) (fun h => absurd h (by decide))⟩
    rintro q V3 ⟨rfl, rfl⟩
    exact ⟨_, rfl, br_intro (fun _ => awakeJ (v1.trans v2) fun V' hV => ⟨rfl, hV⟩) (fun h => absurd h (by decide))⟩
  · rintro ⟨z, ⟨⟩⟩ V2 ⟨u1, u2⟩
    dsimp only [unc] at *
    exact ⟨by rw [u1], u2⟩
theorem p2_dec (a b : P2) : (decide (a.1 = b.1) && (decide (a.2 = b.2) && true)) = decide (a = b) := by
  rw [Bool.and_true, ← Bool.decide_and]
  exact decide_eq_decide.2 Prod.ext_iff.symm
theorem placeCrowded_ok {V : View} (a b s t : P2) : CallV Try.prog 7 ⟨[encP a, encP b, encP s, encP t]⟩ V fun r V' => r = .bool true ∧ V.Le V' := by
  refine f7_x ?_
  unfold f7_n
  intro _ _ _ _
  refine joinP_cut (fun z V2 => V2 = V ∧ (z.1 = false → a ≠ b ∧ s ≠ t ∧ 0 ≤ s.1 ∧ 0 ≤ s.2 ∧ 0 ≤ t.1 ∧ 0 ≤ t.2)) ⟨trivial, br_intro (fun h => ⟨rfl, fun h => absurd h (by decide)⟩) (fun h => ⟨trivial, rfl, fun h2 => ?_⟩)⟩ ?_
  · rw [p2_dec] at h
    have h1 : a ≠ b := of_decide_eq_false h
    have h2 : (bif bif bif bif (decide (s.1 = t.1) && (decide (s.2 = t.2) && true)) then true else decide (s.1 < 0) then true else decide (s.2 < 0) then true else decide (t.1 < 0) then true else decide (t.2 < 0)) = false := h2
    rw [p2_dec] at h2
    simp only [Bool.cond_true_left, Bool.or_eq_false_iff, decide_eq_false_iff_not] at h2
    exact ⟨h1, h2.1.1.1.1, by omega, by omega, by omega, by omega⟩
  rintro ⟨z, ⟨⟩⟩ V2 ⟨rfl, hz⟩
  dsimp only [unc] at *
  refine br_intro (fun _ => awakeJ (View.Le.refl _) fun V' hV => ⟨rfl, hV⟩) (fun h => ?_)
  obtain ⟨hab, hst, s1, s2, t1, t2⟩ := hz h
  have ds1 := decide_eq_true s1; have ds2 := decide_eq_true s2; have dt1 := decide_eq_true t1; have dt2 := decide_eq_true t2
  have l1 : putT a s [] = [(a, s)] := by simp [putT, canP, onP, swapL, lookP, delP, s1, s2]
  have c1 : canP a s [] = true := by simp [canP, onP, swapL, lookP, s1, s2]
  have c2 : canP b s [(a, s)] = false := by simp [canP, onP, swapL, lookP, s1, s2, hab]
  have l2 : putT b s [(a, s)] = [(a, s)] := by simp [putT, c2]
  have c3 : canP a t [(a, s)] = true := by simp [canP, onP, swapL, lookP, t1, t2, hst]
  have l3 : putT a t [(a, s)] = [(a, t)] := by simp [putT, c3, delP]
  have c4 : canP b s [(a, t)] = true := by simp [canP, onP, swapL, lookP, s1, s2, Ne.symm hst]
  have l4 : putT b s [(a, t)] = [(a, t), (b, s)] := by simp [putT, c4, delP, hab]
  have c5 : canP a s [(a, t), (b, s)] = false := by simp [canP, onP, swapL, lookP, s1, s2, Ne.symm hst, Ne.symm hab]
  have l5 : putT a s [(a, t), (b, s)] = [(a, t), (b, s)] := by simp [putT, c5]
  have c6 : (lookP b [(a, t), (b, s)]).isSome = true := by simp [lookP, hab]
  have l6 : delP b [(a, t), (b, s)] = [(a, t)] := by simp [delP, hab]
  have c7 : canP a s [(a, t)] = true := by simp [canP, onP, swapL, lookP, s1, s2, Ne.symm hst]
  have l7 : putT a s [(a, t)] = [(a, s)] := by simp [putT, c7, delP]
  have c8 : lookP a [(a, s)] = some s := by simp [lookP]
  have c9 : onP t [(a, s)] = none := by simp [onP, swapL, lookP, hst]
  refine (new_p (View.Le.refl V2)).mono ?_
  rintro r V1 ⟨x, ra, rb, rfl, h1, _⟩
  refine ⟨_, rfl, trivial, V1.off ra rb, View.off_le _ _ _, (put_p h1 a s).mono ?_⟩
  rintro r V3 ⟨rfl, h3, q⟩
  rw [l1] at h3
  refine ⟨_, rfl, q, (put_p h3 b s).mono ?_⟩
  rintro r V4 ⟨rfl, h4, _⟩
  rw [l2] at h4
  refine ⟨_, rfl, (put_p h4 a t).mono ?_⟩
  rintro r V5 ⟨rfl, h5, _⟩
  rw [l3] at h5
  refine ⟨_, rfl, (put_p h5 b s).mono ?_⟩
  rintro r V6 ⟨rfl, h6, _⟩
  rw [l4] at h6
  refine ⟨_, rfl, (put_p h6 a s).mono ?_⟩
  rintro r V7 ⟨rfl, h7, _⟩
  rw [l5] at h7
  refine ⟨_, rfl, (cut_p h7 b).mono ?_⟩
  rintro r V8 ⟨rfl, h8, _⟩
  rw [l6] at h8
  refine ⟨_, rfl, (put_p h8 a s).mono ?_⟩
  rintro r V9 ⟨rfl, h9, _⟩
  rw [l7] at h9
  refine ⟨_, rfl, (at_ok h9.tab a).mono ?_⟩
  rintro r V9 ⟨rfl, rfl⟩
  rw [c8]
  refine ⟨_, _, _, rfl, fun _ => (on_ok h9.tab t).mono ?_⟩
  rintro r V9 ⟨rfl, rfl⟩
  rw [c9]
  refine ⟨_, _, _, rfl, fun _ => joinP_cut (fun z V3 => z.1 = true ∧ V2.Le V3) ?_ ?_⟩
  · rw [c1, c2, c3, c4, c5, c6, c7]
    refine br_intro (fun _ => ⟨trivial, br_intro (fun _ => (len_ok h9.tab).mono ?_) (fun h => absurd h (by simp))⟩) (fun h => absurd h (by simp))
    rintro r V9 ⟨rfl, rfl⟩
    exact ⟨_, rfl, br_intro (fun _ => awakeJ h9.base fun V' hV => ⟨rfl, hV⟩) (fun h => absurd h (by simp))⟩
  · rintro ⟨z, ⟨⟩⟩ V2 ⟨u1, u2⟩
    dsimp only [unc] at *
    exact ⟨by rw [u1], u2⟩
theorem placeEmpty_ok {V : View} {s : Sl} {l : List CallQ} (h : SlR V s l) : CallV Try.prog 6 ⟨[.slice s.a s.n s.c]⟩ V fun r V' => r = .bool true ∧ V.Le V' := by
  refine f6_x ?_
  unfold f6_n
  have hn := h.n
  refine br_intro (fun _ => awakeJ (View.Le.refl _) fun V' hV => ⟨rfl, hV⟩) (fun hb => ?_)
  have hb : l.length ≤ 100 := by have := of_decide_eq_false hb; omega
  refine (new_p (View.Le.refl V)).mono ?_
  rintro r V1 ⟨t, ra, rb, rfl, h1, _⟩
  refine ⟨_, rfl, loop1 (k := .int .i64) (fun (i : Int) V' => 0 ≤ i ∧ i ≤ l.length ∧ ∃ tl : PL, PT V V' t ra rb tl ∧ (tl.length : Int) ≤ i) (fun (i : Int) _ => l.length - i.toNat) ⟨by omega, by omega, [], h1, by simp⟩ ?_⟩
  rintro (i : Int) V2 ⟨i0, i1, tl, hT, hL⟩
  refine br_intro (fun hlt => ?_) (fun hge => ?_)
  · have hlt : i < s.n := by simpa using hlt
    obtain ⟨ad, hx, ha, hc⟩ := (h.mono hT.base).callq i0 hlt
    refine ⟨i0, hlt, ad, ha, _, _, _, _, _, hc, fun _ => (put_p hT l[i.toNat].2.1 l[i.toNat].2.2).mono ?_⟩
    rintro r V3 ⟨rfl, h3, _⟩
    have := putT_len l[i.toNat].2.1 l[i.toNat].2.2 tl
    exact ⟨_, rfl, inI64 (by omega) (by omega), ⟨by omega, by omega, _, h3, by omega⟩, by omega⟩
  · refine (all_p hT (by omega)).mono ?_
    rintro r V3 ⟨y, m, rfl, m1, m2, m3, m4⟩
    have hT3 := (hT.mono m4).rebase
    have hV3 := (hT.mono m4).le
    have hml := m1.length_eq
    have hyn := m3.n
    refine ⟨y, rfl, loop1 (k := .int .i64) (fun (j : Int) V' => 0 ≤ j ∧ j ≤ m.length ∧ PT (V3.off ra rb) V' t ra rb (m.drop j.toNat)) (fun (j : Int) _ => m.length - j.toNat) ⟨by omega, by omega, hT3.perm m1.symm⟩ ?_⟩
    rintro (j : Int) V4 ⟨j0, j1, hT4⟩
    refine br_intro (fun hlt => ?_) (fun hge => ?_)
    · have hlt : j < y.n := by simpa using hlt
      obtain ⟨ad, hx, ha, hc⟩ := (m3.mono hT4.base).fnd j0 hlt
      have hd : m.drop j.toNat = m[j.toNat] :: m.drop (j + 1).toNat := by
        rw [show (j + 1).toNat = j.toNat + 1 by omega]; exact List.drop_eq_getElem_cons hx
      have hu := hT4.tab.uni
      rw [hd] at hu
      have hua := List.nodup_cons.1 hu.a
      have hub := List.nodup_cons.1 hu.b
      have e1 : (lookP m[j.toNat].1 (m.drop j.toNat)).isSome = true := by rw [hd]; simp [lookP]
      have e2 : delP m[j.toNat].1 (m.drop j.toNat) = m.drop (j + 1).toNat := by
        rw [hd]; exact delP_erase (j := 0) hu.a (by simp) rfl
      have e3 : lookP m[j.toNat].1 (m.drop (j + 1).toNat) = none := lookP_none hua.1
      have e4 : delP m[j.toNat].1 (m.drop (j + 1).toNat) = m.drop (j + 1).toNat := delP_none hua.1
      have e5 : onP m[j.toNat].2 (m.drop (j + 1).toNat) = none := lookP_none (by rw [swapL_fst]; exact hub.1)
      refine ⟨j0, hlt, ad, ha, _, _, _, _, hc, fun _ => joinP_cut (fun z V' => z.1 = false ∧ PT (V3.off ra rb) V' t ra rb (m.drop (j + 1).toNat)) ((cut_p hT4 m[j.toNat].1).mono ?_) ?_⟩
      · rintro r V5 ⟨rfl, h5, _⟩
        rw [e2] at h5
        rw [e1]
        refine ⟨_, rfl, br_intro (fun h => absurd h (by decide)) (fun _ => (cut_p h5 m[j.toNat].1).mono ?_)⟩
        rintro r V6 ⟨rfl, h6, _⟩
        rw [e4] at h6
        rw [e3]
        refine ⟨_, rfl, br_intro (fun h => absurd h (by decide)) (fun _ => (len_ok h6.tab).mono ?_)⟩
        rintro r V7 ⟨rfl, rfl⟩
        refine ⟨_, rfl, inI64 (by omega) (by omega), inI64 (by omega) (by omega), ?_, h6⟩
        show (!decide _) = false
        rw [List.length_drop, decide_eq_true (by omega)]; rfl
      · rintro ⟨z, ⟨⟩⟩ V5 ⟨u1, h5⟩
        dsimp only [unc] at *
        subst u1
        refine br_intro (fun h => absurd h (by decide)) (fun _ => (on_ok h5.tab m[j.toNat].2).mono ?_)
        rintro r V6 ⟨rfl, rfl⟩
        rw [e5]
        refine ⟨_, _, _, rfl, fun _ => br_intro (fun h => absurd h (by decide)) (fun _ => (at_ok h5.tab m[j.toNat].1).mono ?_)⟩
        rintro r V6 ⟨rfl, rfl⟩
        rw [e3]
        exact ⟨_, _, _, rfl, fun _ => br_intro (fun h => absurd h (by decide)) (fun _ => ⟨inI64 (by omega) (by omega), ⟨by omega, by omega, h5⟩, by omega⟩)⟩
    · have hge : ¬ j < y.n := by simpa using hge
      rw [List.drop_of_length_le (by omega)] at hT4
      refine joinP_cut (fun z V3 => z.1 = true ∧ V.Le V3) ((len_ok hT4.tab).mono ?_) ?_
      · rintro r V5 ⟨rfl, rfl⟩
        refine ⟨_, rfl, br_intro (fun _ => (all_p hT4 (by decide)).mono ?_) (fun h => absurd h (by decide))⟩
        rintro r V6 ⟨z, m', rfl, u1, _, u3, u4⟩
        have hz : z.n = 0 := by rw [u3.n, u1.length_eq]; rfl
        exact ⟨z, rfl, br_intro (fun _ => awakeJ ((hV3.trans hT4.base).trans u4) fun V' hV => ⟨rfl, hV⟩) (fun h => absurd h (by rw [hz]; decide))⟩
      · rintro ⟨z, ⟨⟩⟩ V2 ⟨u1, u2⟩
        dsimp only [unc] at *
        exact ⟨by rw [u1], u2⟩
end Go.Proofs.Ytpoijjfbgfiboaa

/- PlaceMoves answers true. -/
namespace Go.Proofs.Ytpoijjfbgfiboaa
open Go Go.Shelf Go.RowKit Go.Lib Go.Sort
/-- A number, whatever it is. -/
structure RawI where
  v : Int
instance : Rep RawI where
  sz := 1
  pos := by decide
  rep _ vs c := vs = [.int .i64 c.v]
  len h := by rw [h]; rfl
  one h := by rw [h]; rfl
  mono _ h := h
theorem SlR.raw {V : View} {s : Sl} {l : List RawI} (h : SlR V s l) {x : Int} (h0 : 0 ≤ x) (hx : x < s.n) : ∃ ad, ∃ hl : x.toNat < l.length, s.a = some ad ∧ V.cell? (ad.add (x.toNat * 1)) = some (.int .i64 l[x.toNat].v) := by
  obtain ⟨ad, vs, hl, ha, hc, hr⟩ := h.ld h0 hx
  have hr : vs = [.int .i64 l[x.toNat].v] := hr
  subst hr
  exact ⟨ad, hl, ha, cellsAt_one.1 hc⟩
def sumB (l : PL) (bl : List RawI) : Nat := (bl.map fun b => (inB b.v l).length).sum
theorem sumB_all : ∀ {bl : List RawI} {l : PL}, bl.Pairwise (fun a b => a.v < b.v) → (∀ p ∈ l, ∃ b ∈ bl, b.v = p.2.1) → sumB l bl = l.length
  | [], [], _, _ => rfl
  | [], p :: l, _, h => by obtain ⟨b, hb, _⟩ := h p (by simp); cases hb
  | b :: bl, l, hp, h => by
    rw [List.pairwise_cons] at hp
    have hlen : (inB b.v l).length + (l.filter fun p => !decide (p.2.1 = b.v)).length = l.length := by
      unfold inB
      have := List.length_eq_countP_add_countP (fun p : P2 × P2 => decide (p.2.1 = b.v)) (l := l)
      rw [List.countP_eq_length_filter, List.countP_eq_length_filter] at this
      rw [this]
      congr 2
      apply List.filter_congr
      intro p _
      simp
    have ih := sumB_all (bl := bl) (l := l.filter fun p => !decide (p.2.1 = b.v)) hp.2 (fun p hpm => by
      obtain ⟨h1, h2⟩ := List.mem_filter.1 hpm
      obtain ⟨c, hc, e⟩ := h p h1
      rcases List.mem_cons.1 hc with rfl | hc
      · simp [e] at h2
      · exact ⟨c, hc, e⟩)
    have hs : sumB (l.filter fun p => !decide (p.2.1 = b.v)) bl = sumB l bl := by
      unfold sumB
      congr 1
      apply List.map_congr_left
      intro c hc
      congr 1
      unfold inB
      rw [List.filter_filter]
      apply List.filter_congr
      intro p _
      have := hp.1 c hc
      by_cases e : p.2.1 = c.v
      · simp [e]; omega
      · simp [e]
    show (inB b.v l).length + sumB l bl = l.length
    rw [← hs, ih]; exact hlen
theorem sumB_le (l : PL) : ∀ bl : List RawI, sumB l bl ≤ bl.length * l.length
  | [] => by simp [sumB]
  | b :: bl => by
    have := sumB_le l bl
    have h2 := inB_len b.v l
    show (inB b.v l).length + sumB l bl ≤ _
    rw [List.length_cons, Nat.add_mul]; omega
theorem sumB_snoc (l : PL) (bl : List RawI) (b : RawI) : sumB l (bl ++ [b]) = sumB l bl + (inB b.v l).length := by
  unfold sumB; simp
/-- The blocks so far. -/
structure BlkI (m : PL) (i : Nat) (bl : List RawI) : Prop where
  inc : bl.Pairwise (fun a b => a.v < b.v)
  all : ∀ p ∈ m.take i, ∃ b ∈ bl, b.v = p.2.1
  from_ : ∀ b ∈ bl, ∃ p ∈ m.take i, p.2.1 = b.v
  len : bl.length ≤ i
theorem BlkI.last {m : PL} {i : Nat} {bl : List RawI} (h : BlkI m i bl) {b c : RawI} (hl : bl.getLast? = some c) (hb : b ∈ bl) : b.v ≤ c.v := by
  obtain ⟨ys, rfl⟩ := List.getLast?_eq_some_iff.1 hl
  rcases List.mem_append.1 hb with hb | hb
  · have := (List.pairwise_append.1 h.inc).2.2 b hb c (by simp); omega
  · simp at hb; rw [hb]; omega
theorem BlkI.le {m : PL} {i : Nat} {bl : List RawI} (hs : Srt m) (h : BlkI m i bl) (hi : i < m.length) {b : RawI} (hb : b ∈ bl) : b.v ≤ m[i].2.1 := by
  obtain ⟨p, hp, e⟩ := h.from_ b hb
  obtain ⟨j, hj, rfl⟩ := List.mem_iff_getElem.1 hp
  rw [List.length_take] at hj
  rw [List.getElem_take] at e
  have := List.pairwise_iff_getElem.1 hs j i (by omega) hi (by omega)
  rw [ordP_lt] at this
  have := of_decide_eq_false this
  omega
theorem take_snoc {α : Type} {m : List α} {i : Nat} (hi : i < m.length) : m.take (i + 1) = m.take i ++ [m[i]] := by
  rw [List.take_add_one, List.getElem?_eq_getElem hi]; rfl
theorem BlkI.keep {m : PL} {i : Nat} {bl : List RawI} (h : BlkI m i bl) (hi : i < m.length) {c : RawI} (hl : c ∈ bl) (e : c.v = m[i].2.1) : BlkI m (i + 1) bl := by
  refine ⟨h.inc, fun p hp => ?_, fun b hb => ?_, by have := h.len; omega⟩
  · rw [take_snoc hi, List.mem_append, List.mem_singleton] at hp
    rcases hp with hp | rfl
    · exact h.all p hp
    · exact ⟨c, hl, e⟩
  · obtain ⟨p, hp, e⟩ := h.from_ b hb
    exact ⟨p, by rw [take_snoc hi]; exact List.mem_append_left _ hp, e⟩
theorem BlkI.push {m : PL} {i : Nat} {bl : List RawI} (hs : Srt m) (h : BlkI m i bl) (hi : i < m.length) (hn : ∀ c, bl.getLast? = some c → c.v ≠ m[i].2.1) : BlkI m (i + 1) (bl ++ [⟨m[i].2.1⟩]) := by
  refine ⟨?_, fun p hp => ?_, fun b hb => ?_, by have := h.len; simp; omega⟩
  · rw [List.pairwise_append]
    refine ⟨h.inc, by simp, fun a ha b hb => ?_⟩
    simp at hb; subst hb
    show a.v < m[i].2.1
    cases hl : bl.getLast? with
    | none => rw [List.getLast?_eq_none_iff] at hl; rw [hl] at ha; cases ha
    | some c =>
      have h1 := h.last hl ha
      have h2 := h.le hs hi (List.mem_of_getLast? hl)
      have h3 := hn c hl
      omega
  · rw [take_snoc hi, List.mem_append, List.mem_singleton] at hp
    rcases hp with hp | rfl
    · obtain ⟨b, hb, e⟩ := h.all p hp
      exact ⟨b, List.mem_append_left _ hb, e⟩
    · exact ⟨_, List.mem_append_right _ (List.mem_singleton.2 rfl), rfl⟩
  · rw [List.mem_append, List.mem_singleton] at hb
    rcases hb with hb | rfl
    · obtain ⟨p, hp, e⟩ := h.from_ b hb
      exact ⟨p, by rw [take_snoc hi]; exact List.mem_append_left _ hp, e⟩
    · exact ⟨m[i], by rw [take_snoc hi]; exact List.mem_append_right _ (List.mem_singleton.2 rfl), rfl⟩
theorem placeMoves_ok {V : View} {s : Sl} {l : List CallQ} (h : SlR V s l) : CallV Try.prog 5 ⟨[.slice s.a s.n s.c]⟩ V fun r V' => r = .bool true ∧ V.Le V' := by
  refine f5_x ?_
  unfold f5_n
  have hn := h.n
  refine br_intro (fun _ => awakeJ (View.Le.refl _) fun V' hV => ⟨rfl, hV⟩) (fun hb => ?_)
  have hb : l.length ≤ 150 := by have := of_decide_eq_false hb; omega
  refine (new_p (View.Le.refl V)).mono ?_
  rintro r V1 ⟨t, ra, rb, rfl, h1, _⟩
  refine ⟨_, rfl, loop1 (k := .int .i64) (fun (i : Int) V' => 0 ≤ i ∧ i ≤ l.length ∧ ∃ tl : PL, PT V V' t ra rb tl ∧ (tl.length : Int) ≤ i) (fun (i : Int) _ => l.length - i.toNat) ⟨by omega, by omega, [], h1, by simp⟩ ?_⟩
  rintro (i : Int) V2 ⟨i0, i1, tl, hT, hL⟩
  refine br_intro (fun hlt => ?_) (fun hge => ?_)
  · have hlt : i < s.n := by simpa using hlt
    obtain ⟨ad, hx, ha, hc⟩ := (h.mono hT.base).callq i0 hlt
    refine ⟨i0, hlt, ad, ha, _, _, _, _, _, hc, fun _ => (put_p hT l[i.toNat].2.1 l[i.toNat].2.2).mono ?_⟩
    rintro r V3 ⟨rfl, h3, _⟩
    have := putT_len l[i.toNat].2.1 l[i.toNat].2.2 tl
    exact ⟨_, rfl, inI64 (by omega) (by omega), ⟨by omega, by omega, _, h3, by omega⟩, by omega⟩
  · refine (all_p hT (by omega)).mono ?_
    rintro r V3 ⟨y, m, rfl, m1, m2, m3, m4⟩
    have hT3 := hT.mono m4
    have m3 := m3.mono (View.off_le _ _ _)
    have hml := m1.length_eq
    have hyn := m3.n
    have hu := hT.tab.uni
    refine ⟨y, rfl, loop2 (k := .sl) (l := .int .i64) (fun (x : Sl) (j : Int) V' => 0 ≤ j ∧ j ≤ m.length ∧ ∃ bl cs, BlkI m j.toNat bl ∧ Buf V' x 3 (Rep.sz RawI) cs ∧ repL (V'.minus x) cs bl ∧ V3.Le (V'.minus x)) (fun _ (j : Int) _ => m.length - j.toNat)
      ⟨by omega, by omega, [], [], ⟨.nil, by simp, by simp, by simp⟩, Buf.nil _ _ _, rfl, View.Le.refl _⟩ ?_⟩
    rintro x (j : Int) V4 ⟨j0, j1, bl, cs, hB, hX, hR, hV⟩
    have hle4 : V3.Le V4 := hV.trans (View.minus_le _ _)
    have hsl : SlR V4 x bl := hX.slR hR (View.minus_le _ _)
    have hxn := hsl.n
    have hbl := hB.len
    refine br_intro (fun hlt => ?_) (fun hge => ?_)
    · have hlt : j < y.n := by simpa using hlt
      obtain ⟨ad, hx, ha, hc⟩ := (m3.mono hle4).fnd j0 hlt
      have hm : (m[j.toNat].1, m[j.toNat].2) ∈ tl := m1.mem_iff.1 (List.getElem_mem hx)
      have e1 : lookP m[j.toNat].1 tl = some m[j.toNat].2 := (lookP_mem hu.a).2 hm
      have e2 : onP m[j.toNat].2 tl = some m[j.toNat].1 := (lookP_mem (by rw [swapL_fst]; exact hu.b)).2 (swapL_mem.2 hm)
      refine ⟨j0, hlt, ad, ha, _, _, _, _, hc, fun _ => joinP_cut (fun z V' => V' = V4 ∧ ((z.1 = true ∧ ∀ c, bl.getLast? = some c → c.v ≠ m[j.toNat].2.1) ∨ (z.1 = false ∧ ∃ c ∈ bl, c.v = m[j.toNat].2.1))) ⟨trivial, V4, View.Le.refl _, br_intro (fun hq => ?_) (fun hq => ?_)⟩ ?_⟩
      · have hq : x.n = 0 := by have := of_decide_eq_true hq; omega
        have : bl = [] := List.length_eq_zero_iff.1 (by omega)
        exact ⟨rfl, .inl ⟨rfl, fun c hc => by rw [this] at hc; cases hc⟩⟩
      · have hq : x.n ≠ 0 := by have := of_decide_eq_false hq; omega
        obtain ⟨ad2, hx2, ha2, hc2⟩ := hsl.raw (x := (x.n : Int) - 1) (by omega) (by omega)
        refine ⟨inI64 (by omega) (by omega), by omega, by omega, ad2, ha2, _, hc2, rfl, ?_⟩
        have hlast : bl.getLast? = some bl[((x.n : Int) - 1).toNat] := by
          rw [List.getLast?_eq_getElem?, show bl.length - 1 = ((x.n : Int) - 1).toNat by omega, List.getElem?_eq_getElem hx2]
        by_cases e : bl[((x.n : Int) - 1).toNat].v = m[j.toNat].2.1
        · exact .inr ⟨by show (!decide _) = _; rw [decide_eq_true e]; rfl, _, List.getElem_mem hx2, e⟩
        · exact .inl ⟨by show (!decide _) = _; rw [decide_eq_false e]; rfl, fun c hc => by rw [hlast] at hc; cases hc; exact e⟩
      · rintro ⟨z, ⟨⟩⟩ V5 ⟨rfl, hz⟩
        dsimp only [unc] at *
        refine joinP_cut (fun z V' => ∃ bl cs, BlkI m (j + 1).toNat bl ∧ Buf V' z.1 3 (Rep.sz RawI) cs ∧ repL (V'.minus z.1) cs bl ∧ V3.Le (V'.minus z.1)) (br_intro (fun hq => ?_) (fun hq => ?_)) ?_
        · intro r hr
          have hz : ∀ c, bl.getLast? = some c → c.v ≠ m[j.toNat].2.1 := by
            rcases hz with ⟨_, h⟩ | ⟨h, _⟩
            · exact h
            · rw [h] at hq; cases hq
          refine app0 (α := RawI) (d := ⟨m[j.toNat].2.1⟩) (l := bl) rfl hX hR rfl hV hr rfl (by show (x.n + 1) * 8 ≤ _; omega) (by show x.n + 1 ≤ _; omega) fun s V' cs' g1 g2 g3 => ⟨_, cs', ?_, g1, g2, g3⟩
          rw [show (j + 1).toNat = j.toNat + 1 by omega]
          exact hB.push m2 hx hz
        · obtain ⟨c, hc1, hc2⟩ : ∃ c ∈ bl, c.v = m[j.toNat].2.1 := by
            rcases hz with ⟨h, _⟩ | ⟨_, h⟩
            · rw [h] at hq; cases hq
            · exact h
          refine ⟨bl, cs, ?_, hX, hR, hV⟩
          rw [show (j + 1).toNat = j.toNat + 1 by omega]
          exact hB.keep hx hc1 hc2
        · rintro ⟨z2, ⟨⟩⟩ V6 ⟨bl2, cs2, b1, b2, b3, b4⟩
          dsimp only [unc] at *
          have hT6 := hT3.mono (b4.trans (View.minus_le _ _))
          refine (at_ok hT6.tab m[j.toNat].1).mono ?_
          rintro r V7 ⟨rfl, rfl⟩
          rw [e1]
          refine ⟨_, _, _, rfl, fun _ => (on_ok hT6.tab m[j.toNat].2).mono ?_⟩
          rintro r V7 ⟨rfl, rfl⟩
          rw [e2]
          refine ⟨_, _, _, rfl, fun _ => joinP_cut (fun z V' => z.1 = false ∧ V' = V7) (br_intro (fun h => absurd h (by simp)) (fun _ => ⟨trivial, br_intro (fun h => absurd h (by simp)) (fun _ => ⟨trivial, ?_, rfl⟩)⟩)) ?_⟩
          · simp
          · rintro ⟨z3, ⟨⟩⟩ V8 ⟨u1, rfl⟩
            dsimp only [unc] at *
            subst u1
            exact br_intro (fun h => absurd h (by decide)) (fun _ => ⟨inI64 (by omega) (by omega), ⟨by omega, by omega, bl2, cs2, b1, b2, b3, b4⟩, by omega⟩)
    · have hge : ¬ j < y.n := by simpa using hge
      have hjm : j.toNat = m.length := by omega
      rw [hjm] at hB
      have hT4 := hT3.mono hle4
      have hall := hB.all
      rw [List.take_length] at hall
      have hsum : sumB tl bl = tl.length := sumB_all hB.inc fun p hp => hall p (m1.mem_iff.2 hp)
      refine loop2 (k := .int .i64) (l := .int .i64) (fun (u : Int) (k : Int) V' => 0 ≤ k ∧ k ≤ bl.length ∧ u = sumB tl (bl.take k.toNat) ∧ V4.Le V') (fun _ (k : Int) _ => bl.length - k.toNat) ⟨by omega, by omega, rfl, View.Le.refl _⟩ ?_
      rintro (u : Int) (k : Int) V5 ⟨k0, k1, hu5, hV5⟩
      refine br_intro (fun hlt => ?_) (fun hge2 => ?_)
      · have hlt : k < x.n := by simpa using hlt
        obtain ⟨ad, hx, ha, hc⟩ := (hsl.mono hV5).raw k0 hlt
        refine ⟨k0, hlt, ad, ha, _, hc, joinP_cut (fun z V' => z.1 = false ∧ V' = V5) (br_intro (fun hq => ?_) (fun _ => ⟨rfl, rfl⟩)) ?_⟩
        · have hq : 0 < k := by simpa using hq
          obtain ⟨ad2, hx2, ha2, hc2⟩ := (hsl.mono hV5).raw (x := k - 1) (by omega) (by omega)
          refine ⟨inI64 (by omega) (by omega), by omega, by omega, ad2, ha2, _, hc2, ?_, rfl⟩
          have := List.pairwise_iff_getElem.1 hB.inc (k - 1).toNat k.toNat hx2 hx (by omega)
          exact decide_eq_false (by omega)
        · rintro ⟨z3, ⟨⟩⟩ V8 ⟨u1, rfl⟩
          dsimp only [unc] at *
          subst u1
          refine br_intro (fun h => absurd h (by decide)) (fun _ => (live_ok (hT4.mono hV5).tab (by omega) bl[k.toNat].v).mono ?_)
          rintro r V9 ⟨rfl, hV9⟩
          have e : sumB tl (bl.take (k + 1).toNat) = sumB tl (bl.take k.toNat) + (inB bl[k.toNat].v tl).length := by
            rw [show (k + 1).toNat = k.toNat + 1 by omega, take_snoc hx, sumB_snoc]
          have hle := sumB_le tl (bl.take (k + 1).toNat)
          have hlt2 : (bl.take (k + 1).toNat).length ≤ 150 := by rw [List.length_take]; omega
          have hle2 := Nat.mul_le_mul hlt2 (show tl.length ≤ 150 by omega)
          exact ⟨_, rfl, inI64 (by omega) (by omega), inI64 (by omega) (by omega), ⟨by omega, by omega, by omega, hV5.trans hV9⟩, by omega⟩
      · have hge2 : ¬ k < x.n := by simpa using hge2
        rw [List.take_of_length_le (by omega), hsum] at hu5
        refine joinP_cut (fun z V' => z.1 = true ∧ V.Le V') ((len_ok (hT4.mono hV5).tab).mono ?_) ?_
        · rintro r V6 ⟨rfl, rfl⟩
          exact ⟨_, rfl, br_intro (fun _ => awakeJ (hT4.mono hV5).base fun V' hV => ⟨rfl, hV⟩) (fun h => absurd h (by rw [hu5]; simp))⟩
        · rintro ⟨z, ⟨⟩⟩ V2 ⟨u1, u2⟩
          dsimp only [unc] at *
          exact ⟨by rw [u1], u2⟩
end Go.Proofs.Ytpoijjfbgfiboaa

/- PlacePlays answers true. -/
namespace Go.Proofs.Ytpoijjfbgfiboaa
open Go Go.Shelf Go.RowKit Go.Lib Go.Sort
theorem lookP_snoc {k : P2} {l : PL} {p : P2 × P2} (hn : ((l ++ [p]).map Prod.fst).Nodup) : lookP k (l ++ [p]) = if p.1 = k then some p.2 else lookP k l := by
  by_cases h : p.1 = k
  · rw [if_pos h]
    exact (lookP_mem hn).2 (by rw [← h]; simp)
  · rw [if_neg h]
    unfold lookP
    rw [List.find?_append]
    have : List.find? (fun p => decide (p.1 = k)) [p] = none := by simp [h]
    rw [this]; simp
theorem onP_snoc {k : P2} {l : PL} {p : P2 × P2} (hn : ((l ++ [p]).map Prod.snd).Nodup) : onP k (l ++ [p]) = if p.2 = k then some p.1 else onP k l := by
  unfold onP
  have e : swapL (l ++ [p]) = swapL l ++ [p.swap] := by unfold swapL; rw [List.map_append]; rfl
  rw [e]
  refine (lookP_snoc (p := p.swap) ?_)
  rw [← e, swapL_fst]; exact hn
theorem onP_perm {s : P2} {l m : PL} (hp : l.Perm m) (h : (l.map Prod.snd).Nodup) : onP s l = onP s m := lookP_perm (hp.map Prod.swap) (by show ((swapL l).map Prod.fst).Nodup; rw [swapL_fst]; exact h)
theorem canP_perm {k s : P2} {l m : PL} (hp : l.Perm m) (h : (l.map Prod.snd).Nodup) : canP k s l = canP k s m := by
  unfold canP; rw [onP_perm hp h]
theorem set_perm {α : Type} : ∀ {l : List α} {i : Nat} {x : α}, i < l.length → (l.set i x).Perm (l.eraseIdx i ++ [x])
  | y :: l, 0, x, _ => by
    rw [List.set_cons_zero, List.eraseIdx_cons_zero]
    exact (List.perm_append_comm (l₁ := [x]))
  | y :: l, i + 1, x, h => by
    rw [List.set_cons_succ, List.eraseIdx_cons_succ, List.cons_append]
    exact (set_perm (by simpa using h)).cons y
theorem fl_set2 {w : PL} {i : Nat} (hi : i < w.length) (s : P2) : putL (fl w) (i * 4 + 2) [.int .i64 s.1, .int .i64 s.2] = fl (w.set i (w[i].1, s)) := by
  rw [← putL_fl hi]
  have h0 : (fl w)[i * 4]? = some (.int .i64 w[i].1.1) := by
    rw [fl_get w (i * 4) (by omega), show i * 4 / 4 = i by omega, show i * 4 % 4 = 0 by omega, getElem!_pos w i hi]; rfl
  have h1 : (fl w)[i * 4 + 1]? = some (.int .i64 w[i].1.2) := by
    rw [fl_get w (i * 4 + 1) (by omega), show (i * 4 + 1) / 4 = i by omega, show (i * 4 + 1) % 4 = 1 by omega, getElem!_pos w i hi]; rfl
  have key : ∀ {L : List Value} {j : Nat} {v : Value}, L[j]? = some v → L.set j v = L := by
    intro L j v h
    obtain ⟨hj, rfl⟩ := List.getElem?_eq_some_iff.1 h
    exact List.set_getElem_self _
  show _ = putL (((fl w).set (i * 4) (.int .i64 w[i].1.1)).set (i * 4 + 1) (.int .i64 w[i].1.2)) (i * 4 + 1 + 1) [.int .i64 s.1, .int .i64 s.2]
  rw [key h0, key h1]
/-- Who is called so, and where; or nobody. -/
def MineI (R : P2) (w : PL) (x : Int) : Prop := (x = -1 ∧ ∀ p ∈ w, p.1 ≠ R) ∨ (0 ≤ x ∧ ∃ h : x.toNat < w.length, w[x.toNat].1 = R)
/-- Whether another one stands there. -/
def OtherI (R S : P2) (w : PL) (x : Int) : Prop := (x = -1 ∧ ∀ p ∈ w, p.2 = S → p.1 = R) ∨ (0 ≤ x ∧ ∃ p ∈ w, p.2 = S ∧ p.1 ≠ R)
theorem mineI_look {R : P2} {w : PL} {x : Int} (hu : (w.map Prod.fst).Nodup) (h : MineI R w x) : decide (0 ≤ x) = (lookP R w).isSome := by
  rcases h with ⟨rfl, h⟩ | ⟨h0, hx, e⟩
  · rw [lookP_none fun hm => by obtain ⟨p, hp, e⟩ := List.mem_map.1 hm; exact h p hp e]; rfl
  · rw [lookP_at hu hx e, decide_eq_true h0]; rfl
theorem mineI_snoc {R : P2} {w : PL} {p : P2 × P2} {x : Int} (h : MineI R w x) : MineI R (w ++ [p]) (if p.1 = R then w.length else x) := by
  split
  · rename_i e
    exact .inr ⟨by omega, by simp, by simpa using e⟩
  · rename_i e
    rcases h with ⟨rfl, h⟩ | ⟨h0, hx, e2⟩
    · exact .inl ⟨rfl, fun q hq => by
        rcases List.mem_append.1 hq with hq | hq
        · exact h q hq
        · simp at hq; rw [hq]; exact e⟩
    · exact .inr ⟨h0, by rw [List.length_append]; omega, by rw [List.getElem_append_left hx]; exact e2⟩
theorem otherI_snoc {R S : P2} {w : PL} {p : P2 × P2} {x : Int} (h : OtherI R S w x) : OtherI R S (w ++ [p]) (if p.2 = S ∧ p.1 ≠ R then w.length else x) := by
  split
  · rename_i e
    exact .inr ⟨by omega, p, by simp, e⟩
  · rename_i e
    rcases h with ⟨rfl, h⟩ | ⟨h0, q, hq, e2⟩
    · refine .inl ⟨rfl, fun q hq => ?_⟩
      rcases List.mem_append.1 hq with hq | hq
      · exact h q hq
      · simp at hq; rw [hq]; intro e3
        exact Classical.byContradiction fun e4 => e ⟨e3, e4⟩
    · exact .inr ⟨h0, q, List.mem_append_left _ hq, e2⟩
theorem otherI_can {R S : P2} {w : PL} {x : Int} (hu : (w.map Prod.snd).Nodup) (h : OtherI R S w x) : (bif bif decide (x < 0) then decide (0 ≤ S.1) else false then decide (0 ≤ S.2) else false) = canP R S w := by
  have key : decide (x < 0) = (match onP S w with
    | some k' => decide (k' = R)
    | none => true) := by
    have hs : ∀ k, onP S w = some k ↔ (k, S) ∈ w := fun k => (lookP_mem (by rw [swapL_fst]; exact hu)).trans swapL_mem
    rcases h with ⟨rfl, h⟩ | ⟨h0, p, hp, e1, e2⟩
    · cases ho : onP S w with
      | none => rfl
      | some k =>
        have := h _ ((hs k).1 ho) rfl
        show true = decide (k = R)
        exact (decide_eq_true this).symm
    · have : onP S w = some p.1 := (hs _).2 (by rw [← e1]; exact hp)
      rw [this]
      show decide _ = decide (p.1 = R)
      rw [decide_eq_false (by omega), decide_eq_false e2]
  have e : canP R S w = (decide (0 ≤ S.1) && decide (0 ≤ S.2) && decide (x < 0)) := by rw [key]; rfl
  rw [e]
  cases decide (x < 0) <;> cases decide (0 ≤ S.1) <;> cases decide (0 ≤ S.2) <;> rfl
theorem p2_beq (a b : P2) : (decide (a.1 = b.1) && (decide (a.2 = b.2) && true)) = decide (a = b) := p2_dec a b
set_option maxRecDepth 10000 in
theorem placePlays_ok {V : View} {s : Sl} {l : List CallQ} (h : SlR V s l) (sp : P2) (k : Int) : CallV Try.prog 3 ⟨[.slice s.a s.n s.c, encP sp, .int .i64 k]⟩ V fun r V' => r = .bool true ∧ V.Le V' := by
  refine f3_x ?_
  unfold f3_n
  have hn := h.n
  refine fun _ => br_intro (fun _ => awakeJ (View.Le.refl _) fun V' hV => ⟨rfl, hV⟩) (fun hb => ?_)
  have hb : l.length ≤ 150 := by have := of_decide_eq_false hb; omega
  refine (new_p (View.Le.refl V)).mono ?_
  rintro r V1 ⟨t, ra, rb, rfl, h1, _⟩
  refine ⟨_, rfl, loop2 (k := .sl) (l := .int .i64) (fun (x : Sl) (i : Int) V' => 0 ≤ i ∧ i ≤ l.length ∧ ∃ tl w : PL, PT V (V'.minus x) t ra rb tl ∧ w.Perm tl ∧ Buf V' x 34 4 (fl w) ∧ (tl.length : Int) ≤ i) (fun _ (i : Int) _ => l.length - i.toNat)
    ⟨by omega, by omega, [], [], h1, .refl _, Buf.nil _ _ _, by simp⟩ ?_⟩
  rintro x (i : Int) V2 ⟨i0, i1, tl, w, hT, hp, hB, hL⟩
  have hVm : V.Le (V2.minus x) := hT.base
  have hV2 : V.Le V2 := hVm.trans (View.minus_le _ _)
  have hx := buf_slR hB
  have hxn := hx.n; have hxc := hx.c; have hwl := hp.length_eq
  have hu : Uni w := hT.tab.uni.perm hp.symm
  refine br_intro (fun hlt => ?_) (fun hge => ?_)
  · have hlt : i < s.n := by simpa using hlt
    obtain ⟨ad, hi, ha, hc⟩ := (h.mono hV2).callq i0 hlt
    obtain ⟨⟨d, R, S⟩, hq⟩ : ∃ c : CallQ, l[i.toNat] = c := ⟨_, rfl⟩
    rw [hq] at hc
    refine ⟨i0, hlt, ad, ha, d, R.1, R.2, S.1, S.2, hc, fun _ => ?_⟩
    refine loop3 (k := .int .i64) (l := .int .i64) (n := .int .i64) (fun (y z j : Int) V' => V' = V2 ∧ 0 ≤ j ∧ j ≤ w.length ∧ MineI R (w.take j.toNat) y ∧ OtherI R S (w.take j.toNat) z) (fun _ _ (j : Int) _ => w.length - j.toNat)
      ⟨rfl, by omega, by omega, .inl ⟨rfl, by simp⟩, .inl ⟨rfl, by simp⟩⟩ ?_
    rintro (y : Int) (z : Int) (j : Int) V3 ⟨rfl, j0, j1, hM, hO⟩
    refine br_intro (fun hltj => ?_) (fun hgej => ?_)
    · have hltj : j < x.n := by simpa using hltj
      obtain ⟨ad2, hj, ha2, hc2⟩ := hx.fnd j0 hltj
      have htk : w.take (j + 1).toNat = w.take j.toNat ++ [w[j.toNat]] := by rw [show (j + 1).toNat = j.toNat + 1 by omega]; exact take_snoc hj
      have hM' := mineI_snoc (p := w[j.toNat]) hM
      have hO' := otherI_snoc (p := w[j.toNat]) hO
      rw [← htk, List.length_take, Nat.min_eq_left (by omega), show ((j.toNat : Nat) : Int) = j by omega] at hM' hO'
      refine ⟨j0, hltj, ad2, ha2, _, _, _, _, hc2, fun _ => ⟨trivial, joinP_cut (fun q V' => V' = V3 ∧ q.1 = if w[j.toNat].1 = R then j else y) (br_intro (fun hq => ⟨rfl, ?_⟩) (fun hq => ⟨rfl, ?_⟩)) ?_⟩⟩
      · rw [p2_beq] at hq; rw [if_pos (of_decide_eq_true hq)]
      · rw [p2_beq] at hq; rw [if_neg (of_decide_eq_false hq)]
      · rintro ⟨q, ⟨⟩⟩ V4 ⟨rfl, e1⟩
        dsimp only [unc] at *
        refine joinP_cut (fun q V' => V' = V4 ∧ q.1 = decide (w[j.toNat].2 = S ∧ w[j.toNat].1 ≠ R)) ⟨trivial, br_intro (fun hq => ⟨trivial, rfl, ?_⟩) (fun hq => ⟨rfl, ?_⟩)⟩ ?_
        · rw [p2_beq] at hq
          have hq := of_decide_eq_true hq
          show (!(_)) = _
          rw [p2_beq]
          by_cases e : w[j.toNat].1 = R
          · rw [decide_eq_true e, decide_eq_false (fun h => h.2 e)]; rfl
          · rw [decide_eq_false e, decide_eq_true ⟨hq, e⟩]; rfl
        · rw [p2_beq] at hq
          have hq := of_decide_eq_false hq
          exact (decide_eq_false fun h => hq h.1).symm
        · rintro ⟨q2, ⟨⟩⟩ V5 ⟨rfl, e2⟩
          dsimp only [unc] at *
          refine joinP_cut (fun q V' => V' = V5 ∧ q.1 = if w[j.toNat].2 = S ∧ w[j.toNat].1 ≠ R then j else z) (br_intro (fun hq => ⟨rfl, ?_⟩) (fun hq => ⟨rfl, ?_⟩)) ?_
          · rw [e2] at hq; exact (if_pos (of_decide_eq_true hq)).symm
          · rw [e2] at hq; exact (if_neg (of_decide_eq_false hq)).symm
          · rintro ⟨q3, ⟨⟩⟩ V6 ⟨rfl, e3⟩
            dsimp only [unc] at *
            refine ⟨inI64 (by omega) (by omega), ⟨rfl, by omega, by omega, ?_, ?_⟩, by omega⟩
            · rw [e1]; exact hM'
            · rw [e3]; exact hO'
    · have hgej : ¬ j < x.n := by simpa using hgej
      rw [List.take_of_length_le (by omega)] at hM hO
      -- what the table and the list are behind the call
      refine joinP_cut (fun q V' => ∃ tl' w' : PL, PT V (V'.minus q.1) t ra rb tl' ∧ w'.Perm tl' ∧ Buf V' q.1 34 4 (fl w') ∧ (tl'.length : Int) ≤ i + 1) (br_intro (fun hd => ?_) (fun hd => ?_)) ?_
      · refine (CallV.besideB (cut_p hT R) hB).mono ?_
        rintro r V4 ⟨U, ⟨rfl, hT4, _⟩, hU, hB4⟩
        have hT5 := hT4.mono hU
        have hx4 := buf_slR hB4
        refine ⟨_, rfl, br_intro (fun hq => absurd hq ?_) (fun _ => ?_)⟩
        · rw [mineI_look hu.a hM, lookP_perm hp hu.a]; simp
        · refine joinP_cut (fun q V' => ∃ tl' w' : PL, PT V (V'.minus q.1) t ra rb tl' ∧ w'.Perm tl' ∧ Buf V' q.1 34 4 (fl w') ∧ (tl'.length : Int) ≤ i + 1) (br_intro (fun hq => ?_) (fun hq => ?_)) ?_
          · have hy0 : 0 ≤ y := of_decide_eq_true hq
            obtain ⟨hy1, hy2⟩ : ∃ h : y.toNat < w.length, w[y.toNat].1 = R := by
              rcases hM with ⟨h, _⟩ | ⟨_, h⟩
              · omega
              · exact h
            refine ⟨trivial, Int.le_refl _, hy0, by omega, inI64 (by omega) (by omega), by omega, by omega, by omega, fun r hr => ?_⟩
            obtain ⟨b1, b2⟩ := buf_new (V := V4) 34 4 hr
            have hs1 : SlR V4 ⟨if x.c = 0 then x.a else x.a.map fun q => q.add 0, y.toNat - 0, x.c - 0⟩ (w.take y.toNat) := by
              have := hx4.take (j := y.toNat) (by omega)
              rw [map_add_zero]
              simpa using this
            have hs2 : SlR V4 ⟨if x.c = (y + 1).toNat then x.a else x.a.map fun q => q.add ((y + 1).toNat * 4), (x.n : Int).toNat - (y + 1).toNat, x.c - (y + 1).toNat⟩ (w.drop (y + 1).toNat) := by
              have := hx4.sub (i := (y + 1).toNat) (j := w.length) (by omega) (Nat.le_refl _)
              rw [List.take_length] at this
              rw [show (x.n : Int).toNat = w.length by omega]; exact this
            refine apF (l := []) rfl b1 b2 hs1 (by simp; omega) (by simp; omega) fun s3 V5 g1 g2 => ?_
            refine apF rfl g1 g2 hs2 (by simp; omega) (by simp; omega) fun s4 V6 g3 g4 => ?_
            have e1 : ([] ++ w.take y.toNat ++ w.drop (y + 1).toNat : PL) = delP R w := by
              rw [delP_erase hu.a hy1 hy2, List.nil_append, show (y + 1).toNat = y.toNat + 1 by omega, ← List.eraseIdx_eq_take_drop_succ]
            rw [e1] at g3
            refine ⟨_, _, hT5.mono ((View.minus_le _ _).trans g4), delP_perm hp, g3, ?_⟩
            have := delP_len R tl; omega
          · have hy0 : ¬ 0 ≤ y := of_decide_eq_false hq
            have hnm : R ∉ tl.map Prod.fst := by
              rw [← (hp.map Prod.fst).mem_iff]
              intro hm
              obtain ⟨p, hpm, e⟩ := List.mem_map.1 hm
              rcases hM with ⟨_, h⟩ | ⟨h, _⟩
              · exact h p hpm e
              · omega
            rw [delP_none hnm] at hT5
            exact ⟨tl, w, hT5, hp, hB4, by omega⟩
          · rintro ⟨q, ⟨⟩⟩ V6 hq
            exact hq
      · refine (CallV.besideB (put_p hT R S) hB).mono ?_
        rintro r V4 ⟨U, ⟨rfl, hT4, _⟩, hU, hB4⟩
        have hT5 := hT4.mono hU
        have hx4 := buf_slR hB4
        have hcan := otherI_can hu.b hO
        have hcp := canP_perm (k := R) (s := S) hp hu.b
        have hlen := putT_len R S tl
        refine ⟨_, rfl, ?_⟩
        rw [hcan, hcp]
        refine br_intro (fun hq => absurd hq (by simp)) (fun _ => ?_)
        refine joinP_cut (fun q V' => ∃ tl' w' : PL, PT V (V'.minus q.1) t ra rb tl' ∧ w'.Perm tl' ∧ Buf V' q.1 34 4 (fl w') ∧ (tl'.length : Int) ≤ i + 1) (br_intro (fun hq => ?_) (fun hq => ?_)) ?_
        · have hq : canP R S tl = true ∧ 0 ≤ y := by simpa using hq
          obtain ⟨hcq, hy0⟩ := hq
          obtain ⟨hy1, hy2⟩ : ∃ h : y.toNat < w.length, w[y.toNat].1 = R := by
            rcases hM with ⟨h, _⟩ | ⟨_, h⟩
            · omega
            · exact h
          obtain ⟨ad3, _, ha3, _⟩ := hx4.fnd (x := y) hy0 (by omega)
          obtain ⟨a1, a2, a3⟩ := hB4.set (off := y.toNat * 4 + 2) (vs := [.int .i64 S.1, .int .i64 S.2]) (by simp; omega) (by simp) ha3
          rw [fl_set2 hy1] at a2
          refine ⟨hy0, by omega, ad3, ha3, ?_, ?_⟩
          · rw [Addr.add_add]; exact a1
          · rw [Addr.add_add]
            refine ⟨_, _, hT5.mono a3, ?_, a2, by omega⟩
            unfold putT
            rw [if_pos hcq, hy2]
            refine (set_perm hy1).trans ?_
            rw [← delP_erase hu.a hy1 hy2]
            exact (delP_perm hp).append_right _
        · refine joinP_cut (fun q V' => ∃ tl' w' : PL, PT V (V'.minus q.1) t ra rb tl' ∧ w'.Perm tl' ∧ Buf V' q.1 34 4 (fl w') ∧ (tl'.length : Int) ≤ i + 1) (br_intro (fun hcq => ?_) (fun hcq => ?_)) ?_
          · have hy0 : ¬ 0 ≤ y := by intro h0; rw [hcq, decide_eq_true h0] at hq; cases hq
            have hnw : ∀ p ∈ w, p.1 ≠ R := by
              rcases hM with ⟨_, h⟩ | ⟨h, _⟩
              · exact h
              · omega
            have hnm : R ∉ tl.map Prod.fst := by
              rw [← (hp.map Prod.fst).mem_iff]
              intro hm
              obtain ⟨p, hpm, e⟩ := List.mem_map.1 hm
              exact hnw p hpm e
            intro r hr
            have hfr := View.see_none_of_ge hr
            have hpu := View.put_le (o := .cells ⟨celP (R, S)⟩ 34 (0, 0)) hfr
            have hqu := put_minus (o := .cells ⟨celP (R, S)⟩ 34 (0, 0)) hB4 hfr
            refine apF (y := ⟨some ⟨r, 0, none⟩, 1, 1⟩) rfl (hB4.mono hpu) hqu (slR_one (R, S)) (by simp; omega) (by simp; omega) fun s3 V5 g1 g2 => ?_
            refine ⟨_, _, hT5.mono ((View.put_le (minus_see_none hfr)).trans g2), ?_, g1, by omega⟩
            unfold putT
            rw [if_pos hcq, delP_none hnm]
            exact hp.append_right _
          · refine ⟨tl, w, ?_, hp, hB4, by omega⟩
            unfold putT at hT5
            rw [if_neg (by rw [hcq]; simp)] at hT5
            exact hT5
          · rintro ⟨q, ⟨⟩⟩ V6 hq
            exact hq
        · rintro ⟨q, ⟨⟩⟩ V6 hq
          exact hq
      · rintro ⟨x2, ⟨⟩⟩ V4 ⟨tl2, w2, hT2, hp2, hB2, hL2⟩
        dsimp only [unc] at *
        have hT2' := hT2.mono (View.minus_le _ _)
        have hu2 := hT2.tab.uni.perm hp2.symm
        have hx2 := buf_slR hB2
        have hx2n := hx2.n; have hw2 := hp2.length_eq
        refine (at_ok hT2'.tab R).mono ?_
        rintro r V5 ⟨rfl, rfl⟩
        refine ⟨_, _, _, rfl, fun _ => (on_ok hT2'.tab S).mono ?_⟩
        rintro r V5 ⟨rfl, rfl⟩
        refine ⟨_, _, _, rfl, fun _ _ _ => ?_⟩
        refine loopP_inv (ks := [.bool, .bool, .int .i64, .int .i64, .int .i64, .int .i64, .int .i64]) (fun q V' => V' = V5 ∧ 0 ≤ q.2.2.1 ∧ q.2.2.1 ≤ w2.length ∧ q.1 = (lookP R (w2.take q.2.2.1.toNat)).isSome ∧ (q.2.2.2.1, q.2.2.2.2.1) = (lookP R (w2.take q.2.2.1.toNat)).getD (0, 0) ∧ q.2.1 = (onP S (w2.take q.2.2.1.toNat)).isSome ∧ (q.2.2.2.2.2.1, q.2.2.2.2.2.2.1) = (onP S (w2.take q.2.2.1.toNat)).getD (0, 0))
          (fun q _ => w2.length - q.2.2.1.toNat) ⟨rfl, by show (0 : Int) ≤ 0; omega, by show (0 : Int) ≤ _; omega, rfl, rfl, rfl, rfl⟩ ?_
        rintro ⟨(c1 : Bool), (c2 : Bool), (j : Int), (x1 : Int), (x2' : Int), (x3 : Int), (x4 : Int), ⟨⟩⟩ V6 ⟨rfl, j0, j1, e1, e2, e3, e4⟩
        dsimp only [uncF] at *
        have j0 : 0 ≤ j := j0
        have j1 : j ≤ w2.length := j1
        refine br_intro (fun hltj => ?_) (fun hgej => ?_)
        · have hltj : j < x2.n := by simpa using hltj
          obtain ⟨ad2, hj, ha2, hc2⟩ := hx2.fnd j0 hltj
          have htk : w2.take (j + 1).toNat = w2.take j.toNat ++ [w2[j.toNat]] := by rw [show (j + 1).toNat = j.toNat + 1 by omega]; exact take_snoc hj
          have n1 : (((w2.take j.toNat) ++ [w2[j.toNat]]).map Prod.fst).Nodup := by rw [← htk]; exact hu2.a.sublist ((List.take_sublist _ _).map _)
          have n2 : (((w2.take j.toNat) ++ [w2[j.toNat]]).map Prod.snd).Nodup := by rw [← htk]; exact hu2.b.sublist ((List.take_sublist _ _).map _)
          have l1 := lookP_snoc (k := R) n1
          have l2 := onP_snoc (k := S) n2
          rw [← htk] at l1 l2
          refine ⟨j0, hltj, ad2, ha2, _, _, _, _, hc2, fun _ => ⟨trivial, joinP_cut (fun q V' => V' = V6 ∧ q.1 = (lookP R (w2.take (j + 1).toNat)).isSome ∧ (q.2.1, q.2.2.1) = (lookP R (w2.take (j + 1).toNat)).getD (0, 0)) (br_intro (fun hq => ⟨rfl, ?_⟩) (fun hq => ⟨rfl, ?_⟩)) ?_⟩⟩
          · rw [p2_beq] at hq; rw [l1, if_pos (of_decide_eq_true hq)]; exact ⟨rfl, rfl⟩
          · rw [p2_beq] at hq; rw [l1, if_neg (of_decide_eq_false hq)]; exact ⟨e1, e2⟩
          · rintro ⟨d1, d2, d3, ⟨⟩⟩ V7 ⟨rfl, f1, f2⟩
            dsimp only [unc] at *
            refine ⟨trivial, joinP_cut (fun q V' => V' = V7 ∧ q.1 = (onP S (w2.take (j + 1).toNat)).isSome ∧ (q.2.1, q.2.2.1) = (onP S (w2.take (j + 1).toNat)).getD (0, 0)) (br_intro (fun hq => ⟨rfl, ?_⟩) (fun hq => ⟨rfl, ?_⟩)) ?_⟩
            · rw [p2_beq] at hq; rw [l2, if_pos (of_decide_eq_true hq)]; exact ⟨rfl, rfl⟩
            · rw [p2_beq] at hq; rw [l2, if_neg (of_decide_eq_false hq)]; exact ⟨e3, e4⟩
            · rintro ⟨d4, d5, d6, ⟨⟩⟩ V8 ⟨rfl, f3, f4⟩
              dsimp only [unc] at *
              exact ⟨inI64 (by omega) (by omega), ⟨rfl, by show (0 : Int) ≤ j + 1; omega, by show j + 1 ≤ (_ : Int); omega, f1, f2, f3, f4⟩, by show w2.length - (j + 1).toNat < w2.length - j.toNat; omega⟩
        · have hgej : ¬ j < x2.n := by simpa using hgej
          rw [List.take_of_length_le (by omega)] at e1 e2 e3 e4
          have q1 := lookP_perm (k := R) hp2 hu2.a
          have q2 := onP_perm (s := S) hp2 hu2.b
          rw [q1] at e1 e2
          rw [q2] at e3 e4
          refine joinP_cut (fun z V' => z.1 = false ∧ V' = V6) ⟨trivial, br_intro (fun hq => absurd hq ?_) (fun _ => br_intro (fun hq => absurd hq ?_) (fun _ => ⟨trivial, br_intro (fun hq => absurd hq ?_) (fun _ => br_intro (fun hq => absurd hq ?_) (fun _ => (len_ok hT2'.tab).mono ?_))⟩))⟩ ?_
          · have := p2_dec ((lookP R tl2).getD (0, 0)) (x1, x2')
            rw [this, decide_eq_true e2.symm]; decide
          · rw [e1]; simp
          · have := p2_dec ((onP S tl2).getD (0, 0)) (x3, x4)
            rw [this, decide_eq_true e4.symm]; decide
          · rw [e3]; simp
          · rintro r V7 ⟨rfl, rfl⟩
            refine ⟨_, rfl, ?_, rfl⟩
            show (!decide _) = false
            rw [decide_eq_true (by omega)]; rfl
          · rintro ⟨z, ⟨⟩⟩ V7 ⟨u1, rfl⟩
            dsimp only [unc] at *
            subst u1
            exact br_intro (fun h => absurd h (by decide)) (fun _ => ⟨inI64 (by omega) (by omega), ⟨by omega, by omega, tl2, w2, hT2, hp2, hB2, hL2⟩, by omega⟩)
  · refine joinP_cut (fun z V' => z.1 = true ∧ V.Le V') ((tells_ok (hT.mono (View.minus_le _ _)) hp hx (by omega) sp k).mono ?_) ?_
    · rintro r V3 ⟨rfl, hV3⟩
      exact ⟨_, rfl, br_intro (fun _ => awakeJ (hV2.trans hV3) fun V' hV => ⟨rfl, hV⟩) (fun h => absurd h (by decide))⟩
    · rintro ⟨z, ⟨⟩⟩ V2 ⟨u1, u2⟩
      dsimp only [unc] at *
      exact ⟨by rw [u1], u2⟩
end Go.Proofs.Ytpoijjfbgfiboaa

/- How rows and trees come in. -/
namespace Go.Proofs.Ytpoijjfbgfiboaa
open Go Go.RowKit Go.ChangeShapes Go.WideShapes
section
variable {H : Type} {enc : TypeId × Value → H} {P : Program} {w : World} {base b0 : Nat} {sp : Nat → Bool} {held : Bool} {r : Go.Reach} {v : Value} {d : DataW H} {ps : List MemPlace}
theorem in_slice {α : Type} [Rep α] {t e : TypeId} (ht : P.underlying t = some (.slice e)) (hT : TrodRep P (List α) t) (hv : Value.okWide P w r b0 t v) (hd : DataW.Trod enc P w base sp held t v d ps) :
    ∃ (s : Sl) (l : List α), v = .slice s.a s.n s.c ∧ SlR (View.all w) s l := by
  obtain ⟨a, len, cap, rfl⟩ := okWide_slice ht hv
  obtain ⟨fuel, hf⟩ := hd
  obtain ⟨l, s, he, hs⟩ := hT.of hf
  simp [Value.cells] at he
  exact ⟨s, l, by rw [he.1, he.2.1, he.2.2], hs⟩
theorem in_tree {α : Type} [Rep α] {t te : TypeId} {fs : Array Field} (ht : P.underlying t = some (.struct fs)) (h0 : fieldX P t 0 = some (0, te)) (hc : P.cellsOf t = 1) (hce : P.cellsOf te = 1) (hT : TrodRep P (List α) te) (hv : Value.okWide P w r b0 t v) (hd : DataW.Trod enc P w base sp held t v d ps) :
    ∃ (s : Sl) (l : List α), v = .agg ⟨[.slice s.a s.n s.c]⟩ ∧ SlR (View.all w) s l := by
  obtain ⟨cs, rfl, hsz⟩ := okWide_struct ht hv
  obtain ⟨fuel, hf⟩ := hd
  obtain ⟨hl, n, y, g⟩ := trod_field h0 hf
  obtain ⟨cs⟩ := cs
  rw [hc] at hsz hl
  match cs, hsz with
  | [c], _ =>
    rw [hce] at g
    obtain ⟨l, s, he, hs⟩ := hT.of g
    simp [Value.cells] at he
    exact ⟨s, l, by rw [he], hs⟩
end
end Go.Proofs.Ytpoijjfbgfiboaa

/- How places and calls come in. -/
namespace Go.Proofs.Ytpoijjfbgfiboaa
open Go Go.RowKit Go.ChangeShapes Go.WideShapes
instance : Rep P2 where
  sz := 2
  pos := by decide
  rep _ vs c := vs = [.int .i64 c.1, .int .i64 c.2]
  len h := by rw [h]; rfl
  one h := by rw [h]; rfl
  mono _ h := h
section
variable {H : Type} {enc : TypeId × Value → H} {P : Program} {w : World} {base b0 : Nat} {sp : Nat → Bool} {held : Bool} {r : Go.Reach} {v : Value} {d : DataW H} {ps : List MemPlace}
theorem in_agg {α : Type} [Rep α] {t : TypeId} {fs : Array Field} (ht : P.underlying t = some (.struct fs)) (hT : TrodRep P α t) (hv : Value.okWide P w r b0 t v) (hd : DataW.Trod enc P w base sp held t v d ps) :
    ∃ (cs : List Value) (x : α), v = .agg ⟨cs⟩ ∧ Rep.rep (View.all w) cs x := by
  obtain ⟨⟨cs⟩, rfl, hsz⟩ := okWide_struct ht hv
  obtain ⟨fuel, hf⟩ := hd
  obtain ⟨x, hx⟩ := hT.of hf
  exact ⟨cs, x, rfl, hx⟩
theorem in_p2 {t : TypeId} {fs : Array Field} (ht : P.underlying t = some (.struct fs)) (hT : TrodRep P P2 t) (hv : Value.okWide P w r b0 t v) (hd : DataW.Trod enc P w base sp held t v d ps) : ∃ p : P2, v = encP p := by
  obtain ⟨cs, p, rfl, h⟩ := in_agg ht hT hv hd
  have h : cs = [.int .i64 p.1, .int .i64 p.2] := h
  exact ⟨p, by rw [h]; rfl⟩
theorem in_callq {t : TypeId} {fs : Array Field} (ht : P.underlying t = some (.struct fs)) (hT : TrodRep P CallQ t) (hv : Value.okWide P w r b0 t v) (hd : DataW.Trod enc P w base sp held t v d ps) : ∃ c : CallQ, v = .agg ⟨[.int .i64 c.1, .int .i64 c.2.1.1, .int .i64 c.2.1.2, .int .i64 c.2.2.1, .int .i64 c.2.2.2]⟩ := by
  obtain ⟨cs, p, rfl, h⟩ := in_agg ht hT hv hd
  have h : cs = [.int .i64 p.1, .int .i64 p.2.1.1, .int .i64 p.2.1.2, .int .i64 p.2.2.1, .int .i64 p.2.2.2] := h
  exact ⟨p, by rw [h]⟩
theorem trodRep_p2 {t ti : TypeId} (h0 : fieldX P t 0 = some (0, ti)) (h1 : fieldX P t 1 = some (1, ti)) (hc : P.cellsOf t = 2) (hci : P.cellsOf ti = 1) (hi : P.underlying ti = some (.int .i64)) : TrodRep P P2 t := ⟨fun {H enc w base sp held fuel cs x} h => by
  obtain ⟨hl, n0, y0, g0⟩ := trod_field h0 h
  obtain ⟨_, n1, y1, g1⟩ := trod_field h1 h
  rw [hc] at hl
  match cs, hl with
  | [a, b], _ =>
    rw [hci] at g0 g1
    obtain ⟨s, e0, w0⟩ := (trodRep_int hi).of g0
    obtain ⟨m, e1, w1⟩ := (trodRep_int hi).of g1
    simp at e0 e1
    exact ⟨(s, m), by rw [e0, e1]; rfl⟩⟩
theorem trodRep_callq {t ti tr ts : TypeId} (h0 : fieldX P t 0 = some (0, ti)) (h1 : fieldX P t 1 = some (1, tr)) (h2 : fieldX P t 2 = some (3, ts)) (hc : P.cellsOf t = 5) (hci : P.cellsOf ti = 1) (hcr : P.cellsOf tr = 2) (hcs : P.cellsOf ts = 2)
    (hi : P.underlying ti = some (.int .i64)) (hr : TrodRep P P2 tr) (hs : TrodRep P P2 ts) : TrodRep P CallQ t := ⟨fun {H enc w base sp held fuel cs x} h => by
  obtain ⟨hl, n0, y0, g0⟩ := trod_field h0 h
  obtain ⟨_, n1, y1, g1⟩ := trod_field h1 h
  obtain ⟨_, n2, y2, g2⟩ := trod_field h2 h
  rw [hc] at hl
  match cs, hl with
  | [a, b, c, d, e], _ =>
    rw [hci] at g0; rw [hcr] at g1; rw [hcs] at g2
    obtain ⟨s, e0, w0⟩ := (trodRep_int hi).of g0
    obtain ⟨p, e1⟩ := hr.of g1
    obtain ⟨q, e2⟩ := hs.of g2
    have e1 : _ = [Value.int .i64 p.1, .int .i64 p.2] := e1
    have e2 : _ = [Value.int .i64 q.1, .int .i64 q.2] := e2
    simp at e0 e1 e2
    exact ⟨(s, p, q), by rw [e0, e1.1, e1.2, e2.1, e2.2]; rfl⟩⟩
end
theorem refIn : TrodRep Try.prog P2 30 := trodRep_p2 (ti := 3) (by kernel_rfl) (by kernel_rfl) (by kernel_rfl) (by kernel_rfl) Try.underlying3
theorem spotIn : TrodRep Try.prog P2 24 := trodRep_p2 (ti := 3) (by kernel_rfl) (by kernel_rfl) (by kernel_rfl) (by kernel_rfl) Try.underlying3
theorem callIn : TrodRep Try.prog CallQ 32 := trodRep_callq (ti := 3) (tr := 30) (ts := 24) (by kernel_rfl) (by kernel_rfl) (by kernel_rfl) (by kernel_rfl) (by kernel_rfl) (by kernel_rfl) (by kernel_rfl) Try.underlying3 refIn spotIn
theorem callsIn : TrodRep Try.prog (List CallQ) 22 := trodRep_slice (e := 32) Try.underlying22 (by kernel_rfl) callIn
end Go.Proofs.Ytpoijjfbgfiboaa
