/- Texts joined: LookOk, Rf163, Look2Ok, Look3Ok, WearOk, StLaw, St1Ok, St2Ok, St3Ok, St4Ok, St5Ok, St6Ok, St7Ok, St8Ok, SealsLaw, SealsOk, Seals2Ok, Seals3Ok. -/
import Derived.Test.YtgkmcnafkhdlnaaGreatPk3
import Derived.RegionIn
set_option linter.unusedVariables false
set_option linter.unusedSimpArgs false
/- Counts, good ones; low and high. -/
namespace Go.Proofs.YtgkmcnafkhdlnaaGreat
open Go
theorem blkCounts_ok {V : View} {s : Sl} {l : List Blk} (h : SlR V s l) (hl : l.length ≤ 64) : CallV Tryz.prog 110 ⟨[.slice s.a s.n s.c]⟩ V fun r V' => ∃ y : Sl, r = .slice y.a y.n y.c ∧ V.Le V' ∧ SlR V' y (l.map (·.cnt)) := by
  refine f110_x ?_
  unfold f110_n
  have hn := h.n
  refine loop2 (k := .sl) (l := .int .i64) (fun (o : Sl) (i : Int) V' => ∃ (j : Nat) (cs : List Value), i = j ∧ j ≤ l.length ∧ Buf V' o 3 1 cs ∧ repL (V'.minus o) cs ((l.take j).map (·.cnt)) ∧ V.Le (V'.minus o)) (fun _ (i : Int) _ => l.length - i.toNat) ⟨0, [], rfl, Nat.zero_le _, Buf.nil _ _ _, rfl, View.Le.refl _⟩ ?_
  rintro (o : Sl) (i : Int) V1 ⟨j, cs, rfl, hj, hb, hr, hle⟩
  have hV1 : V.Le V1 := hle.trans (View.minus_le _ _)
  refine br_intro (fun hlt => ?_) (fun hge => ?_)
  · have hlt : j < l.length := by have := of_decide_eq_true hlt; omega
    obtain ⟨ad, y, hx, ha, hc, _, hi, _⟩ := (h.mono hV1).blk (x := (j : Int)) (by omega) (by omega)
    have hon := hb.n_eq (α := Int) hr
    rw [List.length_map, List.length_take, Nat.min_eq_left hj] at hon
    refine ⟨by omega, by omega, ad, ha, _, _, _, y, hc, fun _ r hr1 => ?_⟩
    refine app0 (α := Int) (V0 := V) rfl hb hr (d := l[(j : Int).toNat].cnt) (vs := [.int .i64 l[(j : Int).toNat].cnt]) ⟨rfl, hi⟩ hle hr1 rfl (by show (o.n + 1) * 8 ≤ _; omega) (by show o.n + 1 ≤ _; omega) fun s V' cs' h2 h3 h4 => ?_
    refine ⟨inI64 (by omega) (by omega), ⟨j + 1, cs', by omega, by omega, h2, ?_, h4⟩, by omega⟩
    rw [List.take_add_one, List.getElem?_eq_getElem hlt, List.map_append]; exact h3
  · have hge : j = l.length := by have := of_decide_eq_false hge; omega
    subst hge
    rw [List.take_length] at hr
    exact ⟨o, rfl, hV1, hb.slR hr (View.minus_le _ _)⟩
theorem blkGood_ok {V : View} {s : Sl} {l : List Blk} (h : SlR V s l) (hl : l.length ≤ 64) : CallV Tryz.prog 111 ⟨[.slice s.a s.n s.c]⟩ V fun r V' => ∃ y : Sl, r = .slice y.a y.n y.c ∧ V.Le V' ∧ SlR V' y (l.map fun b => !b.bad) := by
  refine f111_x ?_
  unfold f111_n
  have hn := h.n
  refine loop2 (k := .sl) (l := .int .i64) (fun (o : Sl) (i : Int) V' => ∃ (j : Nat) (cs : List Value), i = j ∧ j ≤ l.length ∧ Buf V' o 4 1 cs ∧ repL (V'.minus o) cs ((l.take j).map fun b => !b.bad) ∧ V.Le (V'.minus o)) (fun _ (i : Int) _ => l.length - i.toNat) ⟨0, [], rfl, Nat.zero_le _, Buf.nil _ _ _, rfl, View.Le.refl _⟩ ?_
  rintro (o : Sl) (i : Int) V1 ⟨j, cs, rfl, hj, hb, hr, hle⟩
  have hV1 : V.Le V1 := hle.trans (View.minus_le _ _)
  refine br_intro (fun hlt => ?_) (fun hge => ?_)
  · have hlt : j < l.length := by have := of_decide_eq_true hlt; omega
    obtain ⟨ad, y, hx, ha, hc, _, hi, _⟩ := (h.mono hV1).blk (x := (j : Int)) (by omega) (by omega)
    have hon := hb.n_eq (α := Bool) hr
    rw [List.length_map, List.length_take, Nat.min_eq_left hj] at hon
    refine ⟨by omega, by omega, ad, ha, _, _, _, y, hc, fun _ r hr1 => ?_⟩
    refine app0 (α := Bool) (V0 := V) rfl hb hr (d := !l[(j : Int).toNat].bad) (vs := [.bool (!l[(j : Int).toNat].bad)]) rfl hle hr1 rfl (by show (o.n + 1) * 1 ≤ _; omega) (by show o.n + 1 ≤ _; omega) fun s V' cs' h2 h3 h4 => ?_
    refine ⟨inI64 (by omega) (by omega), ⟨j + 1, cs', by omega, by omega, h2, ?_, h4⟩, by omega⟩
    rw [List.take_add_one, List.getElem?_eq_getElem hlt, List.map_append]; exact h3
  · have hge : j = l.length := by have := of_decide_eq_false hge; omega
    subst hge
    rw [List.take_length] at hr
    exact ⟨o, rfl, hV1, hb.slR hr (View.minus_le _ _)⟩
/-- What the rows of a list of truths are. -/
theorem bool_row {V : View} : ∀ {cs : List Value} {l : List Bool}, repL V cs l → cs = l.map Value.bool
  | _, [], h => h
  | _, b :: l, ⟨a, c, e, h, k⟩ => by
    have h : a = [.bool b] := h
    rw [e, h, bool_row k]; rfl
/-- A copy of some truths, in a block of its own. -/
theorem cloneB_ok {V : View} {s : Sl} {l : List Bool} (h : SlR V s l) (h0 : 0 < l.length) (hl : l.length ≤ 1000000) : CallV Tryz.prog 197 ⟨[.slice s.a s.n s.c]⟩ V fun r V' => ∃ b cap all, r = .slice (some ⟨b, 0, none⟩) l.length cap ∧ V.Le V' ∧ V'.see b = some (.cells ⟨all⟩ 4 (0, 0)) ∧ all.take l.length = l.map Value.bool := by
  refine f197_x ?_
  unfold f197_n
  have hn := h.n
  refine br_intro (fun hnil => ?_) (fun _ r hr => ?_)
  · obtain ⟨ad, vs, h1, _⟩ := h.get 0 h0
    rw [h1] at hnil; cases hnil
  · have hfr : V.see r = none := View.see_none_of_ge hr
    have hp := View.put_le (o := .cells ⟨[]⟩ 4) hfr
    obtain ⟨cy, hrow, hcy⟩ := (h.mono hp).row
    have hcb := bool_row hcy
    refine apV_buf (cs := []) (src := cy) (m := s.n) rfl ⟨rfl, Nat.le_refl _, Nat.zero_le _, .inr ⟨r, [], rfl, View.see_put_same _ _ _, rfl, rfl⟩⟩ ⟨rfl, hrow⟩ (by rw [hcb, List.length_map, hn, Nat.mul_one]) (by rw [hcb]; simp [Value.oneCell']) (by simp; omega) (by simp; omega) ?_
    intro x V' hb hxn hle
    have hV : V.Le V' := View.Le.trans (put_le_hide hfr (View.Le.refl _)) (hle.trans (View.minus_le _ _))
    have hxn : x.n = l.length := by rw [hxn, hn]; exact Nat.zero_add _
    rcases hb.own with ⟨ha, hc⟩ | ⟨b, all, ha, hs, hal, ht⟩
    · have := hb.le; omega
    · refine ⟨b, x.c, all, by rw [ha, hxn], hV, hs, ?_⟩
      rw [hxn, Nat.mul_one] at ht
      rw [ht, List.nil_append, hcb]
theorem where_ok {V : View} {s : Sl} {l : List Bool} (h : SlR V s l) (h0 : 0 < l.length) (hl : l.length ≤ 1000000) : CallV Tryz.prog 186 ⟨[.slice s.a s.n s.c]⟩ V fun r V' => ∃ bx b cap all, r = .func (.func 198) ⟨[]⟩ ⟨[.pointer (some ⟨bx, 0, none⟩)]⟩ ∧ V.Le V' ∧ V'.see bx = some (.cells ⟨[.slice (some ⟨b, 0, none⟩) l.length cap]⟩ 25 (0, 0)) ∧ V'.see b = some (.cells ⟨all⟩ 4 (0, 0)) ∧ all.take l.length = l.map Value.bool := by
  refine f186_x ?_
  unfold f186_n
  refine (cloneB_ok h h0 hl).mono ?_
  rintro r V1 ⟨b, cap, all, rfl, hV, hs, ht⟩
  refine ⟨⟨some ⟨b, 0, none⟩, l.length, cap⟩, rfl, fun bx hbx => ?_⟩
  exact ⟨bx, b, cap, all, rfl, hV.trans (View.put_le hbx), View.see_put_same _ _ _, (View.put_le hbx).see _ _ hs, ht⟩
/-- The place of the lowest one. -/
theorem low_ok {V : View} {s : Sl} {l : List Int} (h : SlR V s l) (h0 : 0 < l.length) : CallV Tryz.prog 164 ⟨[.slice s.a s.n s.c]⟩ V fun r V' => (∃ k : Nat, ∃ hk : k < l.length, r = .int .i64 k ∧ ∀ x ∈ l, l[k] ≤ x) ∧ V' = V := by
  refine f164_x ?_
  unfold f164_n
  have hn := h.n
  have hlim := h.lim
  refine loop2 (k := .int .i64) (l := .int .i64) (fun (a : Int) (i : Int) V' => ∃ j : Nat, i = j ∧ j ≤ l.length ∧ V' = V ∧ ((j = 0 ∧ a = -1) ∨ ∃ k : Nat, ∃ hk : k < j, ∃ hl : k < l.length, a = k ∧ ∀ x ∈ l.take j, l[k] ≤ x)) (fun _ (i : Int) _ => l.length - i.toNat) ⟨0, rfl, Nat.zero_le _, rfl, .inl ⟨rfl, rfl⟩⟩ ?_
  rintro (a : Int) (i : Int) V1 ⟨j, rfl, hj, rfl, ha⟩
  refine br_intro (fun hlt => ?_) (fun hge => ?_)
  · have hlt : j < l.length := by have := of_decide_eq_true hlt; omega
    obtain ⟨ad, hl, had, hc, hi⟩ := h.int (x := (j : Int)) (by omega) (by omega)
    refine ⟨by omega, by omega, ad, had, _, hc, ?_⟩
    have tk : l.take (j + 1) = l.take j ++ [l[j]] := by rw [List.take_add_one, List.getElem?_eq_getElem hlt]; rfl
    rcases ha with ⟨rfl, rfl⟩ | ⟨k, hk, hkl, rfl, hm⟩
    · refine joinP_cut (fun z V' => z.1 = true ∧ V' = V1) (br_intro (fun _ => ⟨rfl, rfl⟩) (fun h => by simp at h)) (fun z V' hz => ?_)
      rcases z with ⟨z, ⟨⟩⟩
      obtain ⟨hz, rfl⟩ := hz
      try simp only at hz
      dsimp only [unc]
      subst hz
      refine joinP_cut (fun z V2 => z.1 = 0 ∧ V2 = V') (br_intro (fun _ => ⟨rfl, rfl⟩) (fun h => by cases h)) (fun z V2 hz => ?_)
      rcases z with ⟨z, ⟨⟩⟩
      obtain ⟨hz, rfl⟩ := hz
      try simp only at hz
      dsimp only [unc]
      subst hz
      refine ⟨inI64 (by omega) (by omega), ⟨1, rfl, by omega, rfl, .inr ⟨0, by omega, hlt, rfl, ?_⟩⟩, by omega⟩
      rw [tk]; simp
    · refine joinP_cut (fun z V' => z.1 = decide (l[j] < l[k]) ∧ V' = V1) (br_intro (fun h => by have := of_decide_eq_true h; omega) (fun _ => ?_)) (fun z V' hz => ?_)
      · obtain ⟨ad', hl', had', hc', _⟩ := h.int (x := (k : Int)) (by omega) (by omega)
        exact ⟨by omega, by omega, ad', had', _, hc', rfl, rfl⟩
      rcases z with ⟨z, ⟨⟩⟩
      obtain ⟨hz, rfl⟩ := hz
      try simp only at hz
      dsimp only [unc]
      subst hz
      refine joinP_cut (fun z V2 => (∃ k : Nat, ∃ hk : k < j + 1, ∃ hl : k < l.length, z.1 = k ∧ ∀ x ∈ l.take (j + 1), l[k] ≤ x) ∧ V2 = V') (br_intro (fun h => ?_) (fun h => ?_)) (fun z V2 hz => ?_)
      · have h := of_decide_eq_true h
        refine ⟨⟨j, by omega, hlt, rfl, fun x hx => ?_⟩, rfl⟩
        rw [tk, List.mem_append] at hx
        rcases hx with hx | hx
        · have := hm x hx; omega
        · simp at hx; omega
      · have h := of_decide_eq_false h
        refine ⟨⟨k, by omega, hkl, rfl, fun x hx => ?_⟩, rfl⟩
        rw [tk, List.mem_append] at hx
        rcases hx with hx | hx
        · exact hm x hx
        · simp at hx; omega
      rcases z with ⟨z, ⟨⟩⟩
      obtain ⟨⟨k', h1, h2, h3, h4⟩, rfl⟩ := hz
      try simp only at h3
      dsimp only [unc]
      subst h3
      exact ⟨inI64 (by omega) (by omega), ⟨j + 1, by omega, by omega, rfl, .inr ⟨k', h1, h2, rfl, h4⟩⟩, by omega⟩
  · have hge : j = l.length := by have := of_decide_eq_false hge; omega
    subst hge
    rcases ha with ⟨e, _⟩ | ⟨k, hk, hkl, rfl, hm⟩
    · omega
    · rw [List.take_length] at hm
      exact ⟨⟨k, hkl, rfl, hm⟩, rfl⟩
end Go.Proofs.YtgkmcnafkhdlnaaGreat
/- What the executor asks of the body of a range over a function, written out. (Printed by rf.py.) -/
set_option maxRecDepth 100000
set_option linter.unusedVariables false
namespace Go.Proofs.YtgkmcnafkhdlnaaGreat
open Go
variable [DrK]
def r163_n (u : Nat → Value) (b2 : Addr) (b6 : Addr) (b7 : Addr) (b8 : Int) (V : View) (Q : View → Prop) : Prop :=
    joinP [] (fun (J : CurP []) => True ∧ ∃ (S : View), View.Le S V ∧ ∃ (x : Sl), View.cell? S b6 = some (Value.slice (Sl.a x) (Sl.n x) (Sl.c x)) ∧ ∃ (x_1 : Sl), View.cell? S b7 = some (Value.slice (Sl.a x_1) (Sl.n x_1) (Sl.c x_1)) ∧ ∃ (x_2 : Sl), View.cell? S b2 = some (Value.slice (Sl.a x_2) (Sl.n x_2) (Sl.c x_2)) ∧ (0 : Int) ≤ b8 ∧ b8 < (↑(Sl.n x_2) : Int) ∧ ∃ (ad : Addr), Sl.a x_2 = some ad ∧ ∃ (x_3 : Int), View.cell? S (Addr.add ad (Int.toNat b8 * (1 : Nat))) = some (Value.int IntKind.i64 x_3) ∧ (newB V (Obj.cells (Array.mk (putL [Value.int IntKind.i64 (0 : Int)] (0 : Nat) [Value.int IntKind.i64 b8])) (3 : Nat)) fun (r : Nat) (V : View) => View.Le S V ∧ (apV V (3 : Nat) (1 : Nat) (8 : Nat) [Value.int IntKind.i64 (0 : Int)] (Sl.mk (Sl.a x) (Sl.n x) (Sl.c x)) (Value.slice (some (Addr.mk r (0 : Nat) none)) (1 : Nat) (1 : Nat)) fun (s : Sl) (V : View) => View.Le S V ∧ newB V (Obj.cells (Array.mk (putL [Value.int IntKind.i64 (0 : Int)] (0 : Nat) [Value.int IntKind.i64 x_3])) (3 : Nat)) fun (r : Nat) (V : View) => View.Le S V ∧ apV V (3 : Nat) (1 : Nat) (8 : Nat) [Value.int IntKind.i64 (0 : Int)] (Sl.mk (Sl.a x_1) (Sl.n x_1) (Sl.c x_1)) (Value.slice (some (Addr.mk r (0 : Nat) none)) (1 : Nat) (1 : Nat)) fun (s_1 : Sl) (V : View) => canSet V b6 (nat_lit 1) ∧ canSet (View.sets V b6 [Value.slice (Sl.a s) (Sl.n s) (Sl.c s)]) b7 (nat_lit 1) ∧ J (View.sets (View.sets V b6 [Value.slice (Sl.a s) (Sl.n s) (Sl.c s)]) b7 [Value.slice (Sl.a s_1) (Sl.n s_1) (Sl.c s_1)])) ∧ newB V (Obj.cells (Array.mk (putL [Value.int IntKind.i64 (0 : Int)] (0 : Nat) [Value.int IntKind.i64 x_3])) (3 : Nat)) fun (r_1 : Nat) (V : View) => View.Le S V ∧ apV V (3 : Nat) (1 : Nat) (8 : Nat) [Value.int IntKind.i64 (0 : Int)] (Sl.mk (Sl.a x) (Sl.n x) (Sl.c x)) (Value.slice (some (Addr.mk r (0 : Nat) none)) (1 : Nat) (1 : Nat)) fun (s : Sl) (V : View) => View.Le S V ∧ apV V (3 : Nat) (1 : Nat) (8 : Nat) [Value.int IntKind.i64 (0 : Int)] (Sl.mk (Sl.a x_1) (Sl.n x_1) (Sl.c x_1)) (Value.slice (some (Addr.mk r_1 (0 : Nat) none)) (1 : Nat) (1 : Nat)) fun (s_1 : Sl) (V : View) => canSet V b6 (nat_lit 1) ∧ canSet (View.sets V b6 [Value.slice (Sl.a s) (Sl.n s) (Sl.c s)]) b7 (nat_lit 1) ∧ J (View.sets (View.sets V b6 [Value.slice (Sl.a s) (Sl.n s) (Sl.c s)]) b7 [Value.slice (Sl.a s_1) (Sl.n s_1) (Sl.c s_1)])) ∧ newB V (Obj.cells (Array.mk (putL [Value.int IntKind.i64 (0 : Int)] (0 : Nat) [Value.int IntKind.i64 x_3])) (3 : Nat)) fun (r : Nat) (V : View) => View.Le S V ∧ newB V (Obj.cells (Array.mk (putL [Value.int IntKind.i64 (0 : Int)] (0 : Nat) [Value.int IntKind.i64 b8])) (3 : Nat)) fun (r_1 : Nat) (V : View) => View.Le S V ∧ apV V (3 : Nat) (1 : Nat) (8 : Nat) [Value.int IntKind.i64 (0 : Int)] (Sl.mk (Sl.a x) (Sl.n x) (Sl.c x)) (Value.slice (some (Addr.mk r_1 (0 : Nat) none)) (1 : Nat) (1 : Nat)) fun (s : Sl) (V : View) => View.Le S V ∧ apV V (3 : Nat) (1 : Nat) (8 : Nat) [Value.int IntKind.i64 (0 : Int)] (Sl.mk (Sl.a x_1) (Sl.n x_1) (Sl.c x_1)) (Value.slice (some (Addr.mk r (0 : Nat) none)) (1 : Nat) (1 : Nat)) fun (s_1 : Sl) (V : View) => canSet V b6 (nat_lit 1) ∧ canSet (View.sets V b6 [Value.slice (Sl.a s) (Sl.n s) (Sl.c s)]) b7 (nat_lit 1) ∧ J (View.sets (View.sets V b6 [Value.slice (Sl.a s) (Sl.n s) (Sl.c s)]) b7 [Value.slice (Sl.a s_1) (Sl.n s_1) (Sl.c s_1)])) fun (V : View) => Q V
def r163_ac : AC := (.block none (.reg ⟨(.fl 0 (.fl 1 (.fl 4 (.fl 5 (.fl 6 (.fl 7 (.fl 8 (.alt 2 true false (.alt 3 true false (.alt 9 true false (.alt 10 false false (.alt 11 false false (.alt 12 false false .done .no) .no) .no) .no) (.alt 9 true false (.alt 3 true false (.alt 10 false false (.alt 11 false false (.alt 12 false false .done .no) .no) .no) .no) .no)) (.alt 9 true false (.alt 2 true false (.alt 3 true false (.alt 10 false false (.alt 11 false false (.alt 12 false false .done .no) .no) .no) .no) .no) .no))))))))), true, [], [], (some ⟨[18, 19, 20, 21, 22, 23, 24, 25, 26, 27, 28], [], []⟩)⟩))
theorem r163_x {u : Nat → Value} {b2 : Addr} {b6 : Addr} {b7 : Addr} {b8 : Int} {V : View} {Q : View → Prop} (h : r163_n u b2 b6 b7 b8 V Q) : X Tryz.prog false (r163_ac) (rfBody Tryz.f163) (startX [u 0, u 1, .pointer (some b2), u 3, u 4, u 5, .pointer (some b6), .pointer (some b7), .int .i64 b8, u 9, u 10, u 11, u 12, u 13, u 14, u 15, u 16, u 17, u 18, u 19, u 20, u 21, u 22, u 23, u 24, u 25, u 26, u 27, u 28, u 29, u 30] 31) V (fun e _ V => rfQ Q e V) :=
  Eq.mp (show r163_n u b2 b6 b7 b8 V Q = X Tryz.prog false (r163_ac) (rfBody Tryz.f163) (startX [u 0, u 1, .pointer (some b2), u 3, u 4, u 5, .pointer (some b6), .pointer (some b7), .int .i64 b8, u 9, u 10, u 11, u 12, u 13, u 14, u 15, u 16, u 17, u 18, u 19, u 20, u 21, u 22, u 23, u 24, u 25, u 26, u 27, u 28, u 29, u 30] 31) V (fun e _ V => rfQ Q e V) from by kernel_rfl) h
end Go.Proofs.YtgkmcnafkhdlnaaGreat
/- wear.looked: a round. -/
namespace Go.Proofs.YtgkmcnafkhdlnaaGreat
open Go
/-- The place of the greatest one. -/
theorem high_ok {V : View} {s : Sl} {l : List Int} (h : SlR V s l) (h0 : 0 < l.length) : CallV Tryz.prog 165 ⟨[.slice s.a s.n s.c]⟩ V fun r V' => (∃ k : Nat, ∃ hk : k < l.length, r = .int .i64 k ∧ ∀ x ∈ l, x ≤ l[k]) ∧ V' = V := by
  refine f165_x ?_
  unfold f165_n
  have hn := h.n
  have hlim := h.lim
  refine loop2 (k := .int .i64) (l := .int .i64) (fun (a : Int) (i : Int) V' => ∃ j : Nat, i = j ∧ j ≤ l.length ∧ V' = V ∧ ((j = 0 ∧ a = -1) ∨ ∃ k : Nat, ∃ hk : k < j, ∃ hl : k < l.length, a = k ∧ ∀ x ∈ l.take j, x ≤ l[k])) (fun _ (i : Int) _ => l.length - i.toNat) ⟨0, rfl, Nat.zero_le _, rfl, .inl ⟨rfl, rfl⟩⟩ ?_
  rintro (a : Int) (i : Int) V1 ⟨j, rfl, hj, rfl, ha⟩
  refine br_intro (fun hlt => ?_) (fun hge => ?_)
  · have hlt : j < l.length := by have := of_decide_eq_true hlt; omega
    obtain ⟨ad, hl, had, hc, hi⟩ := h.int (x := (j : Int)) (by omega) (by omega)
    refine ⟨by omega, by omega, ad, had, _, hc, ?_⟩
    have tk : l.take (j + 1) = l.take j ++ [l[j]] := by rw [List.take_add_one, List.getElem?_eq_getElem hlt]; rfl
    rcases ha with ⟨rfl, rfl⟩ | ⟨k, hk, hkl, rfl, hm⟩
    · refine joinP_cut (fun z V' => z.1 = true ∧ V' = V1) (br_intro (fun _ => ⟨rfl, rfl⟩) (fun h => by simp at h)) (fun z V' hz => ?_)
      rcases z with ⟨z, ⟨⟩⟩
      obtain ⟨hz, rfl⟩ := hz
      try simp only at hz
      dsimp only [unc]
      subst hz
      refine joinP_cut (fun z V2 => z.1 = 0 ∧ V2 = V') (br_intro (fun _ => ⟨rfl, rfl⟩) (fun h => by cases h)) (fun z V2 hz => ?_)
      rcases z with ⟨z, ⟨⟩⟩
      obtain ⟨hz, rfl⟩ := hz
      try simp only at hz
      dsimp only [unc]
      subst hz
      refine ⟨inI64 (by omega) (by omega), ⟨1, rfl, by omega, rfl, .inr ⟨0, by omega, hlt, rfl, ?_⟩⟩, by omega⟩
      rw [tk]; simp
    · refine joinP_cut (fun z V' => z.1 = decide (l[k] < l[j]) ∧ V' = V1) (br_intro (fun h => by have := of_decide_eq_true h; omega) (fun _ => ?_)) (fun z V' hz => ?_)
      · obtain ⟨ad', hl', had', hc', _⟩ := h.int (x := (k : Int)) (by omega) (by omega)
        exact ⟨by omega, by omega, ad', had', _, hc', rfl, rfl⟩
      rcases z with ⟨z, ⟨⟩⟩
      obtain ⟨hz, rfl⟩ := hz
      try simp only at hz
      dsimp only [unc]
      subst hz
      refine joinP_cut (fun z V2 => (∃ k : Nat, ∃ hk : k < j + 1, ∃ hl : k < l.length, z.1 = k ∧ ∀ x ∈ l.take (j + 1), x ≤ l[k]) ∧ V2 = V') (br_intro (fun h => ?_) (fun h => ?_)) (fun z V2 hz => ?_)
      · have h := of_decide_eq_true h
        refine ⟨⟨j, by omega, hlt, rfl, fun x hx => ?_⟩, rfl⟩
        rw [tk, List.mem_append] at hx
        rcases hx with hx | hx
        · have := hm x hx; omega
        · simp at hx; omega
      · have h := of_decide_eq_false h
        refine ⟨⟨k, by omega, hkl, rfl, fun x hx => ?_⟩, rfl⟩
        rw [tk, List.mem_append] at hx
        rcases hx with hx | hx
        · exact hm x hx
        · simp at hx; omega
      rcases z with ⟨z, ⟨⟩⟩
      obtain ⟨⟨k', h1, h2, h3, h4⟩, rfl⟩ := hz
      try simp only at h3
      dsimp only [unc]
      subst h3
      exact ⟨inI64 (by omega) (by omega), ⟨j + 1, by omega, by omega, rfl, .inr ⟨k', h1, h2, rfl, h4⟩⟩, by omega⟩
  · have hge : j = l.length := by have := of_decide_eq_false hge; omega
    subst hge
    rcases ha with ⟨e, _⟩ | ⟨k, hk, hkl, rfl, hm⟩
    · omega
    · rw [List.take_length] at hm
      exact ⟨⟨k, hkl, rfl, hm⟩, rfl⟩
/-- Between two rounds of wear.looked. B: the first block that the call made; S: what is seen beside. -/
structure LkI (V : View) (B : Nat) (cn : Sl) (cnt : List Int) (bb : Nat) (ob : Obj) (V' : View) (x y : Sl) (pre : List Int) : Prop where
  le : V.Le ((V'.minus x).minus y)
  b0 : ((V'.minus x).minus y).see B = some (.cells ⟨[.slice cn.a cn.n cn.c]⟩ 72 (0, 0))
  b1 : ((V'.minus x).minus y).see (B + 1) = some (.cells ⟨[.slice x.a x.n x.c]⟩ 72 (0, 0))
  b2 : ((V'.minus x).minus y).see (B + 2) = some (.cells ⟨[.slice y.a y.n y.c]⟩ 72 (0, 0))
  bk : ((V'.minus x).minus y).see bb = some ob
  rx : ∃ cs, Buf V' x 3 1 cs ∧ repL V cs pre
  ry : ∃ ds, Buf (V'.minus x) y 3 1 ds ∧ repL V ds (pre.map fun i => cnt.getD i.toNat 0)
  len : pre.length ≤ 1000000
theorem minus2_ne {V : View} {x y : Sl} {i : Nat} {o : Obj} (h : ((V.minus x).minus y).see i = some o) : (∀ a, x.a = some a → a.block ≠ i) ∧ (∀ a, y.a = some a → a.block ≠ i) ∧ V.see i = some o := by
  have h1 := minus_ne h
  have h2 := h
  rw [minus_see h1] at h2
  have h3 := minus_ne h2
  rw [minus_see h3] at h2
  exact ⟨h3, h1, h2⟩
theorem minus2_see {V : View} {x y : Sl} {i : Nat} {o : Obj} (h1 : ∀ a, x.a = some a → a.block ≠ i) (h2 : ∀ a, y.a = some a → a.block ≠ i) (h3 : V.see i = some o) : ((V.minus x).minus y).see i = some o := by
  rw [minus_see h2, minus_see h1]; exact h3
theorem Buf.swap2 {V : View} {x y : Sl} {e e' : TypeId} {sz sz' : Nat} {cs ds : List Value} (k : Buf V x e sz cs) (h : Buf (V.minus x) y e' sz' ds) : Buf (V.minus y) x e sz cs := Buf.swap h k
theorem lookR_ok {V V' : View} {B bb : Nat} {ob : Obj} {cn x y : Sl} {cnt pre : List Int} {u : Nat → Value} {i : Nat} (hc : SlR V cn cnt) (hi : i < cnt.length) (h : LkI V B cn cnt bb ob V' x y pre) (hq : pre.length < 1000000) (hB : V.size ≤ B) (hb : bb ≠ B + 1 ∧ bb ≠ B + 2) :
    r163_n u ⟨B, 0, none⟩ ⟨B + 1, 0, none⟩ ⟨B + 2, 0, none⟩ i V' fun V2 => ∃ x' y', LkI V B cn cnt bb ob V2 x' y' (pre ++ [(i : Int)]) := by
  unfold r163_n
  obtain ⟨cs, hbx, hrx⟩ := h.rx
  obtain ⟨ds, hby, hry⟩ := h.ry
  have hn := hc.n
  have hxn := hbx.n_eq (α := Int) hrx
  have hyn := hby.n_eq (α := Int) hry
  rw [List.length_map] at hyn
  have hS : ((V'.minus x).minus y).Le V' := (View.minus_le _ _).trans (View.minus_le _ _)
  have c0 : ((V'.minus x).minus y).cell? ⟨B, 0, none⟩ = some (.slice cn.a cn.n cn.c) := cell_of_see h.b0 rfl
  have c1 : ((V'.minus x).minus y).cell? ⟨B + 1, 0, none⟩ = some (.slice x.a x.n x.c) := cell_of_see h.b1 rfl
  have c2 : ((V'.minus x).minus y).cell? ⟨B + 2, 0, none⟩ = some (.slice y.a y.n y.c) := cell_of_see h.b2 rfl
  obtain ⟨ad, hl, had, hcell, hir⟩ := (hc.mono h.le).int (x := (i : Int)) (by omega) (by omega)
  have hint : inI .i64 ((i : Int)) := by have := hc.lim; exact inI64 (by omega) (by omega)
  -- the second append and the two stores
  have fin : ∀ (J : View → Prop), (∀ V2 x' y', LkI V B cn cnt bb ob V2 x' y' (pre ++ [(i : Int)]) → J V2) → ∀ (V1 : View) (s : Sl) (r' : Nat), Buf V1 s 3 1 (cs ++ [.int .i64 (i : Int)]) → Buf (V1.minus s) y 3 1 ds → ((V'.minus x).minus y).Le ((V1.minus s).minus y) → rowAt V1 (some ⟨r', 0, none⟩) (1 * 1) [.int .i64 cnt[(i : Int).toNat]] →
      apV V1 3 1 8 [.int .i64 0] ⟨y.a, y.n, y.c⟩ (.slice (some ⟨r', 0, none⟩) 1 1) fun s_1 V2 => canSet V2 ⟨B + 1, 0, none⟩ (nat_lit 1) ∧ canSet (V2.sets ⟨B + 1, 0, none⟩ [.slice s.a s.n s.c]) ⟨B + 2, 0, none⟩ (nat_lit 1) ∧ J ((V2.sets ⟨B + 1, 0, none⟩ [.slice s.a s.n s.c]).sets ⟨B + 2, 0, none⟩ [.slice s_1.a s_1.n s_1.c]) := by
    intro J hJ V1 s r' hb1 hb2 hle hrow
    refine app0b (α := Int) (V0 := (V'.minus x).minus y) (y := s) (l := pre.map fun i => cnt.getD i.toNat 0) (d := cnt[(i : Int).toNat]) rfl (hb2.mono (View.minus_le _ _)) (Buf.swap2 hb1 hb2) (hry.mono h.le) ⟨rfl, hir⟩ (hle.trans (minus_minus_le _ _ _)) hrow (by rw [List.length_map]; omega) (by rw [List.length_map]; omega) fun z V2 hz hs hr hle2 => ?_
    have k0 := minus2_ne (hle2.see _ _ h.b0)
    have k1 := minus2_ne (hle2.see _ _ h.b1)
    have k2 := minus2_ne (hle2.see _ _ h.b2)
    have kb := minus2_ne (hle2.see _ _ h.bk)
    have e1 : V2.sets ⟨B + 1, 0, none⟩ [.slice s.a s.n s.c] = V2.put (B + 1) (.cells ⟨[.slice s.a s.n s.c]⟩ 72 (0, 0)) := bxe k1.2.2 0 _
    have s2 : (V2.put (B + 1) (.cells ⟨[.slice s.a s.n s.c]⟩ 72 (0, 0))).see (B + 2) = some (.cells ⟨[.slice y.a y.n y.c]⟩ 72 (0, 0)) := by rw [View.see_put_ne _ _ (by omega)]; exact k2.2.2
    have e2 : (V2.put (B + 1) (.cells ⟨[.slice s.a s.n s.c]⟩ 72 (0, 0))).sets ⟨B + 2, 0, none⟩ [.slice z.a z.n z.c] = (V2.put (B + 1) (.cells ⟨[.slice s.a s.n s.c]⟩ 72 (0, 0))).put (B + 2) (.cells ⟨[.slice z.a z.n z.c]⟩ 72 (0, 0)) := bxe s2 0 _
    rw [e1, e2]
    refine ⟨bxc k1.2.2 0 1 (by simp), bxc s2 0 1 (by simp), hJ _ s z ?_⟩
    have keep : ∀ {j : Nat} {o : Obj}, j ≠ B + 1 → j ≠ B + 2 → ((V2.minus z).minus s).see j = some o → ((((V2.put (B + 1) (.cells ⟨[.slice s.a s.n s.c]⟩ 72 (0, 0))).put (B + 2) (.cells ⟨[.slice z.a z.n z.c]⟩ 72 (0, 0))).minus s).minus z).see j = some o := fun {j o} n1 n2 hj => by
      obtain ⟨a1, a2, a3⟩ := minus2_ne hj
      exact minus2_see a2 a1 (by rw [View.see_put_ne _ _ n2, View.see_put_ne _ _ n1]; exact a3)
    have hsz : V2.size ≤ ((V2.put (B + 1) (.cells ⟨[.slice s.a s.n s.c]⟩ 72 (0, 0))).put (B + 2) (.cells ⟨[.slice z.a z.n z.c]⟩ 72 (0, 0))).size := Nat.le_trans (Nat.le_max_left _ _) (Nat.le_max_left _ _)
    refine ⟨⟨?_, fun j o hj => ?_, ?_⟩, keep (by omega) (by omega) (hle2.see _ _ h.b0), ?_, ?_, keep hb.1 hb.2 (hle2.see _ _ h.bk), ⟨cs ++ [.int .i64 (i : Int)], ?_, ?_⟩, ⟨ds ++ [.int .i64 cnt[(i : Int).toNat]], ?_, ?_⟩, ?_⟩
    · have h1 := (h.le.trans hle2).size
      rw [minus_size, minus_size] at h1 ⊢
      omega
    · have := V.lt j o hj
      exact keep (by omega) (by omega) ((h.le.trans hle2).see _ _ hj)
    · have h1 := (h.le.trans hle2).out
      rw [minus_out, minus_out] at h1 ⊢
      exact h1
    · exact minus2_see k1.2.1 k1.1 (by rw [View.see_put_ne _ _ (by omega)]; exact View.see_put_same _ _ _)
    · exact minus2_see k2.2.1 k2.1 (View.see_put_same _ _ _)
    · exact (hs.mono (View.minus_le _ _)).see fun a o ha ho => by rw [View.see_put_ne _ _ (k2.2.1 a ha), View.see_put_ne _ _ (k1.2.1 a ha)]; exact ho
    · exact hrx.snoc ⟨rfl, hint⟩
    · refine (Buf.swap2 hz hs).see fun a o ha ho => ?_
      have hne := minus_ne ho
      rw [minus_see hne] at ho ⊢
      rw [View.see_put_ne _ _ (k2.1 a ha), View.see_put_ne _ _ (k1.1 a ha)]; exact ho
    · rw [List.map_append, List.map_cons, List.map_nil, List.getD_eq_getElem?_getD, List.getElem?_eq_getElem (by simpa using hi)]
      exact hry.snoc ⟨rfl, hir⟩
    · rw [List.length_append]; simp; omega
  -- the first append
  have ap1 : ∀ (W : View) (r : Nat) {C : Sl → View → Prop}, V'.Le W → rowAt W (some ⟨r, 0, none⟩) (1 * 1) [.int .i64 (i : Int)] → (∀ s V1, Buf V1 s 3 1 (cs ++ [.int .i64 (i : Int)]) → Buf (V1.minus s) y 3 1 ds → ((V'.minus x).minus y).Le ((V1.minus s).minus y) → ((W.minus x).minus y).Le ((V1.minus s).minus y) → C s V1) → apV W 3 1 8 [.int .i64 0] ⟨x.a, x.n, x.c⟩ (.slice (some ⟨r, 0, none⟩) 1 1) C := by
    intro W r C hW hrow hC
    have hle : ((V'.minus x).minus y).Le ((W.minus x).minus y) := minus_mono (minus_mono hW x) y
    exact app0b (α := Int) (V0 := (W.minus x).minus y) (l := pre) (d := (i : Int)) rfl (hbx.mono hW) (hby.mono (minus_mono hW x)) (hrx.mono (h.le.trans hle)) ⟨rfl, hint⟩ (View.Le.refl _) hrow (by omega) (by omega) fun s V1 a b _ d => hC s V1 a b (hle.trans d) d
  have fr : ∀ {W : View} {r : Nat} {o : Obj}, W.size ≤ r → W.Le (W.put r o) := fun h => View.put_le (View.see_none_of_ge h)
  have own : ∀ {W : View} {s : Sl} {sz : Nat} {e : TypeId} {vs : List Value} {r : Nat}, Buf W s e sz vs → W.see r = none → ∀ a, s.a = some a → a.block ≠ r := by
    rintro W s sz e vs r hbs hr a ha rfl
    rcases hbs.own with ⟨hn, _⟩ | ⟨b, all, h1, h2, _⟩
    · rw [hn] at ha; cases ha
    · rw [h1] at ha; cases ha; rw [h2] at hr; cases hr
  refine joinP_cut (fun _ V2 => ∃ x' y', LkI V B cn cnt bb ob V2 x' y' (pre ++ [(i : Int)])) ⟨trivial, (V'.minus x).minus y, hS, x, c1, y, c2, cn, c0, by omega, by omega, ad, had, _, hcell, ⟨fun r hr => ⟨hS.trans (fr hr), ?_, fun r1 hr1 => ⟨hS.trans ((fr hr).trans (fr hr1)), ?_⟩⟩, fun r hr => ⟨hS.trans (fr hr), fun r1 hr1 => ⟨hS.trans ((fr hr).trans (fr hr1)), ?_⟩⟩⟩⟩ (fun _ _ h => h)
  · refine ap1 _ r (fr hr) (rowAt_new (View.see_put_same _ _ _) rfl) fun s V1 a b c _ => ⟨c.trans ((View.minus_le _ _).trans (View.minus_le _ _)), fun r' hr' => ⟨(c.trans ((View.minus_le _ _).trans (View.minus_le _ _))).trans (fr hr'), ?_⟩⟩
    have hn' := View.see_none_of_ge (V := V1) hr'
    exact fin _ (fun V2 x' y' h => ⟨x', y', h⟩) _ s r' (a.put hn') (b.mono (put_minus_le hn')) (c.trans (minus_mono (put_minus_le hn') y)) (rowAt_new (View.see_put_same _ _ _) rfl)
  · refine ap1 _ r ((fr hr).trans (fr hr1)) (rowAt_new ((fr hr1).see _ _ (View.see_put_same _ _ _)) rfl) fun s V1 a b c d => ⟨c.trans ((View.minus_le _ _).trans (View.minus_le _ _)), ?_⟩
    refine fin _ (fun V2 x' y' h => ⟨x', y', h⟩) _ s r1 a b c (rowAt_new (((View.minus_le _ _).trans (View.minus_le _ _)).see _ _ (d.see _ _ (minus2_see (own (hbx.mono (fr hr)) (View.see_none_of_ge hr1)) (own ((hby.mono (View.minus_le _ _)).mono (fr hr)) (View.see_none_of_ge hr1)) (View.see_put_same _ _ _)))) rfl)
  · refine ap1 _ r1 ((fr hr).trans (fr hr1)) (rowAt_new (View.see_put_same _ _ _) rfl) fun s V1 a b c d => ⟨c.trans ((View.minus_le _ _).trans (View.minus_le _ _)), ?_⟩
    refine fin _ (fun V2 x' y' h => ⟨x', y', h⟩) _ s r a b c (rowAt_new (((View.minus_le _ _).trans (View.minus_le _ _)).see _ _ (d.see _ _ (minus2_see (own hbx (View.see_none_of_ge hr)) (own (hby.mono (View.minus_le _ _)) (View.see_none_of_ge hr)) ((fr hr1).see _ _ (View.see_put_same _ _ _))))) rfl)
end Go.Proofs.YtgkmcnafkhdlnaaGreat
/- wear.looked. -/
namespace Go.Proofs.YtgkmcnafkhdlnaaGreat
open Go Go.RowKit Go.Shelf
attribute [local go_sem] Oper.semAt_some
theorem where_stops (n b bx cap : Nat) (bs : List Bool) (hlen : bs.length ≤ 1000000) (w : World) (h1 : w.cell? ⟨bx, 0, none⟩ = some (.slice (some ⟨b, 0, none⟩) bs.length cap)) (hc : ∀ j (h : j < bs.length), w.cell? ⟨b, j, none⟩ = some (.bool bs[j])) :
    SeqStopsK Fence.wide n Tryz.prog 198 #[.pointer (some ⟨bx, 0, none⟩)] (fun x : Plc bs.length => #[Value.int .i64 (x.1 : Int)]) (fun W W' => W'.heap[b]? = W.heap[b]?) (fun xs => xs = trueP bs bs.length) (fun _ => True) bs.length w := by
  intro l J Jx W hW hJ hJx hY h0
  have lt : ∀ {a : Addr} {v : Value}, w.cell? a = some v → a.block < w.heap.size := fun h => World.block_lt_of_cell? w _ h
  have g1 := (hW.cell (p := ⟨bx, 0, none⟩) (lt h1)).trans h1
  have g2 : ∀ j (h : j < bs.length), W.cell? ⟨b, j, none⟩ = some (.bool bs[j]) := fun j h => (hW.cell (p := ⟨b, j, none⟩) (lt (hc j h))).trans (hc j h)
  refine (where1_in n l b bx cap bs hlen J Jx hY W g1 g2 h0).mono ?_
  rintro e W' ⟨a, b | ⟨pre, b⟩⟩
  · exact ⟨a, .inl ⟨_, rfl, b⟩⟩
  · exact ⟨a, .inr ⟨pre, trivial, b⟩⟩
theorem minus2_only {V : View} {N : Nat} {x y : Sl} {i : Nat} {o : Obj} (h : ((V.minus x).minus y).see i = some o) (ho : i < N ∨ o.isCells = true) : (((V.onlyC N).minus x).minus y).see i = some o := by
  obtain ⟨a, b, c⟩ := minus2_ne h
  exact minus2_see a b (onlyC_see c ho)
theorem LkI.only {V V' : View} {B bb N : Nat} {all : List Value} {te : TypeId} {cn x y : Sl} {cnt pre : List Int} (h : LkI V B cn cnt bb (.cells ⟨all⟩ te (0, 0)) V' x y pre) (hN : V.size ≤ N) : LkI V B cn cnt bb (.cells ⟨all⟩ te (0, 0)) (V'.onlyC N) x y pre := by
  obtain ⟨cs, h1, h2⟩ := h.rx
  obtain ⟨ds, h3, h4⟩ := h.ry
  refine ⟨⟨?_, fun i o hi => minus2_only (h.le.see i o hi) (.inl (by have := V.lt i o hi; omega)), ?_⟩, minus2_only h.b0 (.inr rfl), minus2_only h.b1 (.inr rfl), minus2_only h.b2 (.inr rfl), minus2_only h.bk (.inr rfl), ⟨cs, ?_, h2⟩, ⟨ds, ?_, h4⟩, h.len⟩
  · have h1 := h.le.size
    rw [minus_size, minus_size] at h1 ⊢; exact h1
  · have h1 := h.le.out
    rw [minus_out, minus_out] at h1 ⊢; exact h1
  · refine ⟨h1.len, h1.le, h1.lim, h1.own.imp id ?_⟩
    rintro ⟨r, all, a, b, c⟩
    exact ⟨r, all, a, onlyC_see b (.inr rfl), c⟩
  · refine ⟨h3.len, h3.le, h3.lim, h3.own.imp id ?_⟩
    rintro ⟨r, all, a, b, c⟩
    exact ⟨r, all, a, minus_only b (.inr rfl), c⟩
set_option maxRecDepth 100000 in
set_option maxHeartbeats 4000000 in
set_option pp.maxSteps 4000 in
theorem looked_ok {V : View} {cn s : Sl} {cnt : List Int} {l : List Bool} (hc : SlR V cn cnt) (hs : SlR V s l) (hlen : l.length = cnt.length) (h0 : 0 < l.length) (hl : l.length ≤ 1000000) :
    CallV Tryz.prog 163 ⟨[.slice cn.a cn.n cn.c, .slice s.a s.n s.c]⟩ V fun r V' => ∃ x y : Sl, r = .tuple ⟨[.slice x.a x.n x.c, .slice y.a y.n y.c]⟩ ∧ V.Le V' ∧ SlR V' x ((trueP l l.length).map fun i => (i.1 : Int)) ∧ SlR V' y ((trueP l l.length).map fun i => cnt.getD i.1 0) := by
  refine ⟨enters_of (fn := Tryz.f163) (by kernel_rfl) (by kernel_rfl) (by kernel_rfl), fun w hw => ?_⟩
  refine (callsIn_wide (n := 5)).1 (callsIn_of_wp_marks Tryz.func163 rfl trivial ?_ rfl)
  simp only [Tryz.ntmps163, List.size_toArray, List.length_cons, List.length_nil, Nat.reduceAdd, Nat.reduceSub, Array.replicate_succ, Array.replicate_zero, List.push_toArray, List.append_toArray, List.nil_append, List.cons_append]
  obtain ⟨N, hN⟩ : ∃ N, l.length = N := ⟨_, rfl⟩
  have hM : cnt.length = N := hlen.symm.trans hN
  clear hlen
  obtain ⟨sa, sn, sc⟩ := s
  obtain ⟨ca, cl, cc⟩ := cn
  obtain rfl : sn = N := hs.n.trans hN
  obtain rfl : cl = sn := hc.n.trans hM
  have hsc : cl ≤ sc := hs.c
  obtain ⟨sad, _, hsa, _⟩ := hs.get 0 h0
  subst hsa
  gi_wp2
  have hVB : V.size ≤ w.heap.size := hw.size
  obtain ⟨V1, hV1⟩ : ∃ V1, V1 = ((V.put w.heap.size (.cells ⟨[.slice ca cl cc]⟩ 72)).put (w.heap.size + 1) (.cells ⟨[.slice none 0 0]⟩ 72)).put (w.heap.size + 1 + 1) (.cells ⟨[.slice none 0 0]⟩ 72) := ⟨_, rfl⟩
  obtain ⟨W1, hW1⟩ : ∃ W1, ((w.alloc (.cells #[.slice ca cl cc] 72)).alloc (.cells #[.slice none 0 0] 72)).alloc (.cells #[.slice none 0 0] 72) = W1 := ⟨_, rfl⟩
  rw [hW1]
  have hI1 : V1.In W1 := by
    have i0 := In_alloc_put hw (.cells #[.slice ca cl cc] 72)
    have i1 := In_alloc_put i0 (.cells #[.slice none 0 0] 72)
    have i2 := In_alloc_put i1 (.cells #[.slice none 0 0] 72)
    simp only [World.size_alloc] at i1 i2
    rw [hV1, ← hW1]; exact i2
  have hF1 : Fr V w V1 W1 := by
    have i0 := Fr_alloc_put (Fr.refl V w) (.cells #[.slice ca cl cc] 72)
    have i1 := Fr_alloc_put i0 (.cells #[.slice none 0 0] 72)
    have i2 := Fr_alloc_put i1 (.cells #[.slice none 0 0] 72)
    simp only [World.size_alloc] at i1 i2
    rw [hV1, ← hW1]; exact i2
  have hS1 : W1.heap.size = w.heap.size + 3 := by rw [← hW1]; simp only [World.size_alloc]
  clear hW1
  obtain ⟨B, hB⟩ : ∃ B, w.heap.size = B := ⟨_, rfl⟩
  rw [hB] at hS1 hV1 hVB ⊢
  have e0 : V1.see B = some (.cells ⟨[.slice ca cl cc]⟩ 72 (0, 0)) := by
    rw [hV1]; iterate 2 rw [View.see_put_ne _ _ (by omega)]
    exact View.see_put_same _ _ _
  have e1 : V1.see (B + 1) = some (.cells ⟨[.slice none 0 0]⟩ 72 (0, 0)) := by
    rw [hV1]; iterate 1 rw [View.see_put_ne _ _ (by omega)]
    exact View.see_put_same _ _ _
  have e2 : V1.see (B + 2) = some (.cells ⟨[.slice none 0 0]⟩ 72 (0, 0)) := by
    rw [hV1]; exact View.see_put_same _ _ _
  have hV1' : V.Le V1 := by
    rw [hV1]
    refine ⟨?_, fun i o hi => ?_, rfl⟩
    · show V.size ≤ max (max (max _ _) _) _
      omega
    · have := V.lt i o hi
      iterate 3 rw [View.see_put_ne _ _ (by omega)]
      exact hi
  have hn1 : ∀ i, w.heap.size ≤ i → V.see i = none := fun i hi => View.see_none_of_ge (by omega)
  clear hV1
  refine ⟨trivial, callsIn_wide.2 (((where_ok (hs.mono hV1') h0 hl).at hI1).mono ?_)⟩
  rintro e w' ⟨r, V4, rfl, hI4, hF4, bx, bb, cap, all, rfl, hV4, hbx, hbb, hall⟩
  gi_wp2
  have hbbn : bb ≠ B + 1 ∧ bb ≠ B + 2 := by
    constructor
    · rintro rfl
      rw [hV4.see _ _ e1] at hbb
      cases hbb
    · rintro rfl
      rw [hV4.see _ _ e2] at hbb
      cases hbb
  have hbl : bb < w'.heap.size := Nat.lt_of_lt_of_le (V4.lt _ _ hbb) hI4.size
  have hcells : ∀ j (h : j < l.length), w'.cell? ⟨bb, j, none⟩ = some (.bool l[j]) := fun j h => by
    refine hI4.cell (cell_of_see hbb ?_)
    have h1 : (all.take l.length)[j]? = some (.bool l[j]) := by rw [hall]; simp [h]
    rw [List.getElem?_take, if_pos h] at h1
    simpa using h1
  have hC4 : ∀ i o, w'.heap.size ≤ i → V4.see i = some o → o.isCells = true := fun i o hi ho => by
    have := V4.lt i o ho; have := hI4.size; omega
  have hL4 : LkI V B ⟨ca, cl, cc⟩ cnt bb (.cells ⟨all⟩ 4 (0, 0)) V4 ⟨none, 0, 0⟩ ⟨none, 0, 0⟩ [] := ⟨hV1'.trans hV4, hV4.see _ _ e0, hV4.see _ _ e1, hV4.see _ _ e2, hbb, ⟨[], Buf.nil _ _ _, rfl⟩, ⟨[], Buf.nil _ _ _, rfl⟩, by simp⟩
  have hF4' : Fr V w V4 w' := hF1.trans hF4
  refine wpIn_rangeFunc_ownG (α := Plc l.length) (F := Fence.wide) rfl (by omega) (gf := 198) (lb := #[.pointer (some ⟨bx, 0, none⟩)]) rfl trivial (enters_of Tryz.func198 (by kernel_rfl) rfl)
    (where_stops 4 bb bx cap l hl w' (hI4.cell (cell_of_see hbx rfl)) hcells) (fun h k => k.trans h) (fun W k o o' hk hW hc1 _ => World.putObj_heap_other (by omega)) (Below.refl _ _) (fun _ => rfl)
    (fun (pre : List (Plc l.length)) W => ∃ V' x y, LkI V B ⟨ca, cl, cc⟩ cnt bb (.cells ⟨all⟩ 4 (0, 0)) V' x y (pre.map fun i => (i.1 : Int)) ∧ V'.In W ∧ Fr V w V' W ∧ ∀ i o, w'.heap.size ≤ i → V'.see i = some o → o.isCells = true)
    (fun _ _ _ => False)
    (by
      rintro pre A A' row ⟨V', x, y, h2, h3, h4, h5⟩ hg hr
      exact ⟨V', x, y, h2, In_grown h3 h5 hg hr, Fr_grown h4 hg (fun r e => by have := (hr r e).1; have := hF4'.size; omega), h5⟩)
    (fun _ _ _ _ _ h _ _ => h) ⟨V4, _, _, hL4, hI4, hF4', hC4⟩
    (fun x => { tmps := #[.slice ca cl cc, .slice (some sad) cl sc, .pointer (some ⟨B, 0, none⟩), undef, .slice none 0 0, .slice none 0 0, .pointer (some ⟨B + 1, 0, none⟩), .pointer (some ⟨B + 1 + 1, 0, none⟩), .int .i64 (x.1 : Int), .slice (some sad) cl sc, .slice (some sad) cl sc, .int .i64 cl, .slice ca cl cc, .int .i64 cl, .int .i64 cl, .slice (some sad) cl sc,
      .func (.func 198) #[] #[.pointer (some ⟨bx, 0, none⟩)], .int .i64 (x.1 : Int), undef, undef, undef, undef, undef, undef, undef, undef, undef, undef, undef, undef, undef], defers := [] }) ?assign ?body ?done ?stop
  case assign =>
    intro l x W K hK
    gi_wp2
    exact hK
  case body =>
    rintro k pre x W ⟨V', x1, y1, h2, h3, h4, h5⟩ hlen
    have hx := lookR_ok (u := fun t => (#[.slice ca cl cc, .slice (some sad) cl sc, undef, undef, .slice none 0 0, .slice none 0 0, undef, undef, undef, .slice (some sad) cl sc, .slice (some sad) cl sc, .int .i64 cl, .slice ca cl cc, .int .i64 cl, .int .i64 cl, .slice (some sad) cl sc,
      .func (.func 198) #[] #[.pointer (some ⟨bx, 0, none⟩)], .int .i64 (x.1 : Int)] : Array Value).toList.getD t undef) (i := x.1) hc (by have := x.2; omega) h2 (by rw [List.length_map]; omega) hVB hbbn
    have hX := X_soundR (V0 := V') (w0 := W) (wr := false) k 3 Tryz.checked.mixed r163_ac _ _ V' _ _ W (by kernel_rfl) (start_agr' rfl) ⟨h3, Fr.refl _ _, ⟨by intro i b hb; simp [startX] at hb, by intro i b cs hb; simp [startX] at hb, by intro i j b c hb; simp [startX] at hb⟩⟩ (r163_x hx)
    refine wpIn_mono hX ?_
    rintro e a W3 hq
    cases e with
    | normal =>
      obtain ⟨st', V3, _, k1, _, x3, y3, k2⟩ := hq
      refine ⟨⟨k1.fr.size, fun k o hk ho hc => ?_⟩, ?_, V3.onlyC w'.heap.size, x3, y3, ?_, (onlyC_le _ _).In k1.isIn, Fr_only (h4.trans k1.fr) _, fun i o hi ho => onlyC_cells hi ho⟩
      · have hn : V'.see k = none := by
          cases hs : V'.see k with
          | none => rfl
          | some o' =>
            have e1 := h3.see _ _ hs
            rw [ho] at e1
            cases e1
            have := h5 k o hk hs
            rw [hc] at this; cases this
        rw [(k1.fr.hid k (Array.getElem?_eq_some_iff.1 ho).1 hn).2]; exact ho
      · have b1 := h3.see _ _ (minus2_ne h2.bk).2.2
        have b2 := k1.isIn.see _ _ (minus2_ne k2.bk).2.2
        exact b2.trans b1.symm
      · rw [List.map_append]; exact k2.only (by have := hF4'.size; omega)
    | exit id => obtain ⟨st', V3, _, k1, _, k2⟩ := hq; exact k2.elim
    | ret => obtain ⟨st', V3, _, k1, _, k2⟩ := hq; exact k2.elim
    | _ => exact hq.elim
  case done =>
    rintro D xs W hD rfl ⟨V', x, y, h2, h3, h4, h5⟩ hK
    have c1 : W.cell? ⟨B + 1, 0, none⟩ = some (.slice x.a x.n x.c) := h3.cell (cell_of_see (minus2_ne h2.b1).2.2 rfl)
    have c2 : W.cell? ⟨B + 1 + 1, 0, none⟩ = some (.slice y.a y.n y.c) := h3.cell (cell_of_see (minus2_ne h2.b2).2.2 rfl)
    gi_wp2
    gi_region
    all_goals gi_wp2
    refine ⟨by simp, .inl ⟨_, _, rfl, run_takeDeferred (w := W.drew) hK, ?_⟩⟩
    have hDn : ∃ o : Obj, W.drew.heap[D]? = some o ∧ o.isCells = false := ⟨_, hK, rfl⟩
    have h3' : V'.In W.drew := ⟨h3.size, h3.see, h3.out⟩
    have h4' : Fr V w V' W.drew := ⟨h4.size, h4.hid, fun e => Nat.le_succ_of_le (h4.drawn e)⟩
    obtain ⟨cs, hbx1, hrx1⟩ := h2.rx
    obtain ⟨ds, hby1, hry1⟩ := h2.ry
    have hVV : V.Le V' := h2.le.trans ((View.minus_le _ _).trans (View.minus_le _ _))
    refine ⟨_, results_tmp2 rfl _ _ _, _, V', rfl, In_grown h3' h5 (grownBy_putObj' W.drew D (.deferred none)) ?_, Fr_grown h4' (grownBy_putObj' W.drew D (.deferred none)) ?_, x, y, rfl, hVV, hbx1.slR hrx1 hVV, ?_⟩
    · rintro r e; cases e; exact ⟨hD, hDn⟩
    · rintro r e; cases e; have := hF4'.size; omega
    · have := (hby1.mono (View.minus_le _ _)).slR hry1 hVV
      rw [List.map_map] at this
      exact this
  case stop =>
    rintro D c pre W _ _ h _
    exact h.elim
end Go.Proofs.YtgkmcnafkhdlnaaGreat
/- wear.Apart. -/
namespace Go.Proofs.YtgkmcnafkhdlnaaGreat
open Go
theorem getD_mem {cnt : List Int} {i : Nat} (h : i < cnt.length) : cnt.getD i 0 ∈ cnt := by
  rw [List.getD_eq_getElem?_getD, List.getElem?_eq_getElem h]; exact List.getElem_mem h
theorem ends_ok {V : View} {cn s : Sl} {cnt : List Int} {l : List Bool} (hc : SlR V cn cnt) (hs : SlR V s l) (hlen : l.length = cnt.length) (h0 : 0 < l.length) (hl : l.length ≤ 1000000) :
    CallV Tryz.prog 131 ⟨[.slice cn.a cn.n cn.c, .slice s.a s.n s.c]⟩ V fun r V' => (∃ a b : Int, r = .tuple ⟨[.int .i64 a, .int .i64 b]⟩ ∧ ((a = 0 ∧ b = 0) ∨ (a ∈ cnt ∧ b ∈ cnt ∧ a ≤ b))) ∧ V.Le V' := by
  refine f131_x ?_
  unfold f131_n
  refine (looked_ok hc hs hlen h0 hl).mono ?_
  rintro r V1 ⟨x, y, rfl, hV, hx, hy⟩
  have hyn := hy.n
  generalize hL : ((trueP l l.length).map fun i => cnt.getD i.1 0) = L at hy hyn
  have hmem0 : ∀ z ∈ L, z ∈ cnt := fun z hz => by
    rw [← hL, List.mem_map] at hz
    obtain ⟨i, _, e⟩ := hz
    rw [← e]
    exact getD_mem (by have := i.2; omega)
  have hmem : ∀ k (h : k < L.length), L[k] ∈ cnt := fun k h => hmem0 _ (List.getElem_mem h)
  refine ⟨x, y, rfl, br_intro (fun _ => ⟨⟨0, 0, rfl, .inl ⟨rfl, rfl⟩⟩, hV⟩) (fun hn => ?_)⟩
  have hn := of_decide_eq_false hn
  refine ⟨trivial, V1, View.Le.refl _, (low_ok hy (by omega)).mono ?_⟩
  rintro r V2 ⟨⟨k, hk, rfl, hlow⟩, rfl⟩
  obtain ⟨ad, hk', ha, hcell, _⟩ := hy.int (x := (k : Int)) (by omega) (by omega)
  refine ⟨_, rfl, View.Le.refl _, V2, View.Le.refl _, View.Le.refl _, by omega, by omega, ad, ha, _, hcell, (high_ok hy (by omega)).mono ?_⟩
  rintro r V3 ⟨⟨k2, hk2, rfl, hhigh⟩, rfl⟩
  obtain ⟨ad', hk2', ha', hcell', _⟩ := hy.int (x := (k2 : Int)) (by omega) (by omega)
  exact ⟨_, rfl, View.Le.refl _, V3, View.Le.refl _, View.Le.refl _, by omega, by omega, ad', ha', _, hcell', ⟨_, _, rfl, .inr ⟨hmem _ hk', hmem _ hk2', hlow _ (List.getElem_mem hk2')⟩⟩, hV⟩
theorem less_ok {V : View} {a b : Int} (h : inI .i64 (a - b)) (h0 : 0 ≤ a - b) : CallV Tryz.prog 132 ⟨[.int .i64 a, .int .i64 b]⟩ V fun r V' => r = .int .i64 (a - b) ∧ V' = V := by
  refine f132_x ?_
  unfold f132_n
  exact ⟨h, br_intro (fun hn => by have := of_decide_eq_true hn; omega) (fun _ => ⟨h, rfl, rfl⟩)⟩
theorem apart_ok {V : View} {cn s : Sl} {cnt : List Int} {l : List Bool} (hc : SlR V cn cnt) (hs : SlR V s l) (hlen : l.length = cnt.length) (h0 : 0 < l.length) (hl : l.length ≤ 1000000) {lo hi : Int} (hb : ∀ x ∈ cnt, lo ≤ x ∧ x ≤ hi) (hlo : lo ≤ hi) (hd : hi - lo ≤ 9223372036854775807) :
    CallV Tryz.prog 109 ⟨[.slice cn.a cn.n cn.c, .slice s.a s.n s.c]⟩ V fun r V' => (∃ n : Int, r = .int .i64 n ∧ 0 ≤ n ∧ n ≤ hi - lo) ∧ V.Le V' := by
  refine f109_x ?_
  unfold f109_n
  refine (ends_ok hc hs hlen h0 hl).mono ?_
  rintro r V1 ⟨⟨a, b, rfl, hab⟩, hV⟩
  have hab' : 0 ≤ b - a ∧ b - a ≤ hi - lo := by
    rcases hab with ⟨rfl, rfl⟩ | ⟨ha, hb', hle⟩
    · omega
    · have := hb _ ha; have := hb _ hb'; omega
  refine ⟨a, b, rfl, (less_ok (inI64 (by omega) (by omega)) hab'.1).mono ?_⟩
  rintro r V2 ⟨rfl, rfl⟩
  exact ⟨_, rfl, ⟨_, rfl, hab'.1, hab'.2⟩, hV⟩
structure Pg where
  r : Rf
  b : List UInt8
instance : Rep Pg where
  sz := 3
  pos := by decide
  rep V vs x := ∃ s : Sl, vs = [.int .i64 x.r.page, .int .i64 x.r.seq, .slice s.a s.n s.c] ∧ inI .i64 x.r.page ∧ inI .i64 x.r.seq ∧ SlR V s x.b
  len h := by obtain ⟨s, h, _⟩ := h; rw [h]; rfl
  one h := by obtain ⟨s, h, _⟩ := h; rw [h]; rfl
  mono hV h := let ⟨s, h, a, b, c⟩ := h; ⟨s, h, a, b, c.mono hV⟩
theorem SlR.pg {V : View} {s : Sl} {l : List Pg} (h : SlR V s l) {x : Int} (h0 : 0 ≤ x) (h1 : x < s.n) :
    ∃ ad, ∃ y : Sl, ∃ hx : x.toNat < l.length, s.a = some ad ∧ cellsAt V (ad.add (x.toNat * 3)) [.int .i64 l[x.toNat].r.page, .int .i64 l[x.toNat].r.seq, .slice y.a y.n y.c] ∧ inI .i64 l[x.toNat].r.page ∧ inI .i64 l[x.toNat].r.seq ∧ SlR V y l[x.toNat].b := by
  obtain ⟨ad, vs, hx, ha, hc, y, rfl, h2, h3, h4⟩ := h.ld h0 h1
  exact ⟨ad, y, hx, ha, hc, h2, h3, h4⟩
def stL (A : PAd) (g : Cfg) (lv fs : Sl) : List Value := [.pointer (some ⟨A.c, 0, none⟩), .pointer (some ⟨A.p, 0, none⟩), .int .i64 g.bl, .int .i64 g.pg, .int .i64 g.sp, .int .i64 g.da, .int .i64 g.we, .int .i64 0, .slice lv.a lv.n lv.c, .slice fs.a fs.n fs.c, .int .i64 0, .int .i64 0, .slice none 0 0, .int .i64 0]
/-- V without the state's box and the pool's blocks. -/
noncomputable def View.off2 (V : View) (S : Nat) (O : Nat → Prop) : View := (V.hide S).sans O
structure StR (V0 V : View) (O : Nat → Prop) (S : Nat) (A : PAd) (C : Chp) (P : Pol) (lv fs : Sl) (live fresh : List Pg) : Prop where
  base : V0.Le (V.off2 S O)
  pool : PoolR (V.hide S) O A C P
  box : V.see S = some (.cells ⟨stL A P.g lv fs⟩ 60 (0, 0))
  lv : SlR (V.off2 S O) lv live
  fs : SlR (V.off2 S O) fs fresh
theorem hide_le2 {V V' : View} (h : V.Le V') (S : Nat) : (V.hide S).Le (V'.hide S) := ⟨h.size, fun i o hi => by
  rw [hide_see] at hi ⊢
  split at hi
  · cases hi
  · rename_i hne; rw [if_neg hne]; exact h.see i o hi, h.out⟩
theorem off2_le (V : View) (S : Nat) (O : Nat → Prop) : (V.off2 S O).Le V := (sans_le _ _).trans (View.hide_le _ _)
theorem off2_mono {V V' : View} {S : Nat} {O : Nat → Prop} (h : V.Le V') : (V.off2 S O).Le (V'.off2 S O) := sans_mono_le (hide_le2 h S)
theorem StR.le {V0 V V' : View} {O : Nat → Prop} {S : Nat} {A : PAd} {C : Chp} {P : Pol} {lv fs : Sl} {live fresh : List Pg} (h : StR V0 V O S A C P lv fs live fresh) (hV : V.Le V') : StR V0 V' O S A C P lv fs live fresh :=
  ⟨h.base.trans (off2_mono hV), h.pool.le (hide_le2 hV S), hV.see _ _ h.box, h.lv.mono (off2_mono hV), h.fs.mono (off2_mono hV)⟩
theorem StR.cell {V0 V : View} {O : Nat → Prop} {S : Nat} {A : PAd} {C : Chp} {P : Pol} {lv fs : Sl} {live fresh : List Pg} (h : StR V0 V O S A C P lv fs live fresh) (j : Nat) {v : Value} (hj : (stL A P.g lv fs)[j]? = some v) : V.cell? ((⟨S, 0, none⟩ : Addr).add j) = some v := bx h.box j hj
theorem StR.cfg {V0 V : View} {O : Nat → Prop} {S : Nat} {A : PAd} {C : Chp} {P : Pol} {lv fs : Sl} {live fresh : List Pg} (h : StR V0 V O S A C P lv fs live fresh) : cellsAt V ((⟨S, 0, none⟩ : Addr).add 2) [.int .i64 P.g.bl, .int .i64 P.g.pg, .int .i64 P.g.sp, .int .i64 P.g.da, .int .i64 P.g.we] := by
  intro j v hj
  rw [Addr.add_add]
  refine h.cell _ ?_
  match j, hj with
  | 0, hj => exact hj
  | 1, hj => exact hj
  | 2, hj => exact hj
  | 3, hj => exact hj
  | 4, hj => exact hj
  | j + 5, hj => simp at hj
/-- A call that needs the pool alone, and writes nothing. -/
theorem StR.ask {V0 V : View} {O : Nat → Prop} {S : Nat} {A : PAd} {C : Chp} {P : Pol} {lv fs : Sl} {live fresh : List Pg} (_h : StR V0 V O S A C P lv fs live fresh) {Q : Program} {f : FuncId} {args : Array Value} {K : Value → View → Prop}
    (c : CallV Q f args (V.hide S) fun r U' => K r U' ∧ (V.hide S).Le U') : CallV Q f args V fun r V' => ∃ U', K r U' ∧ U'.Le (V'.hide S) ∧ V.Le V' := by
  refine (CallV.frameG (View.hide_le V S) c).mono ?_
  rintro r V' ⟨U', h1, h2, h3, h4, h5⟩
  refine ⟨U', h1, ⟨h3.size, fun i o hi => ?_, h3.out⟩, h4⟩
  have hne : i ≠ S := by
    rintro rfl
    have := h5 i _ (by rw [hide_see, if_pos rfl]) _h.box
    rw [hi] at this; cases this
  rw [hide_see, if_neg hne]; exact h3.see _ _ hi
/-- A call that turns the pool. -/
theorem StR.op {V0 V : View} {O : Nat → Prop} {S : Nat} {A : PAd} {C : Chp} {P : Pol} {lv fs : Sl} {live fresh : List Pg} (h : StR V0 V O S A C P lv fs live fresh) {Q : Program} {f : FuncId} {args : Array Value} {K : Value → (Nat → Prop) → PAd → Chp → Pol → View → Prop}
    (c : CallV Q f args (V.hide S) fun r U' => ∃ O' A' C' P', K r O' A' C' P' U' ∧ PoolR U' O' A' C' P' ∧ Wr O (V.hide S) U' ∧ (∀ i, O' i → O i ∨ (V.hide S).see i = none) ∧ P'.g = P.g ∧ A'.p = A.p ∧ A'.c = A.c) :
    CallV Q f args V fun r V' => ∃ O' A' C' P' U', K r O' A' C' P' U' ∧ U'.Le (V'.hide S) ∧ StR V0 V' O' S A' C' P' lv fs live fresh ∧ (V.off2 S O).Le (V'.off2 S O') ∧ (V.sans O).Le V' := by
  refine (CallV.beside c h.box).mono ?_
  rintro r V' ⟨U', ⟨O', A', C', P', hK, hp, w, hO, e1, e2, e3⟩, hU, hS⟩
  have hle : (V.off2 S O).Le (V'.off2 S O') := (w.sans' (fun _ h => h) hO).trans (sans_mono_le hU)
  refine ⟨O', A', C', P', U', hK, hU, ⟨h.base.trans hle, hp.le hU, ?_, h.lv.mono hle, h.fs.mono hle⟩, hle, ⟨?_, fun i o hi => ?_, ?_⟩⟩
  rotate_left
  · exact hle.size
  · by_cases e : i = S
    · subst e
      rw [hS]
      have := (sans_le V O).see _ _ hi
      rw [h.box] at this; exact this
    · refine (off2_le V' S O').see _ _ (hle.see _ _ ?_)
      by_cases e' : O i
      · rw [sans_yes e'] at hi; cases hi
      · rw [sans_no e'] at hi
        unfold View.off2
        rw [sans_no e', hide_see, if_neg e]; exact hi
  · exact hle.out
  rw [hS]
  unfold stL
  rw [e1, e2, e3]
theorem hide_put_le (V : View) (S : Nat) (o : Obj) : (V.hide S).Le ((V.put S o).hide S) := ⟨Nat.le_max_left _ _, fun i o' hi => by
  rw [hide_see] at hi ⊢
  split at hi
  · cases hi
  · rename_i hne; rw [if_neg hne, View.see_put_ne _ _ hne]; exact hi, rfl⟩
/-- The rows of the state, set. -/
theorem StR.set {V0 V : View} {O : Nat → Prop} {S : Nat} {A : PAd} {C : Chp} {P : Pol} {lv fs lv' fs' : Sl} {live fresh live' fresh' : List Pg} (h : StR V0 V O S A C P lv fs live fresh) (hl : SlR (V.off2 S O) lv' live') (hf : SlR (V.off2 S O) fs' fresh') :
    StR V0 (V.put S (.cells ⟨stL A P.g lv' fs'⟩ 60 (0, 0))) O S A C P lv' fs' live' fresh' ∧ (V.off2 S O).Le ((V.put S (.cells ⟨stL A P.g lv' fs'⟩ 60 (0, 0))).off2 S O) := by
  have h1 := hide_put_le V S (.cells ⟨stL A P.g lv' fs'⟩ 60 (0, 0))
  have h2 : (V.off2 S O).Le ((V.put S (.cells ⟨stL A P.g lv' fs'⟩ 60 (0, 0))).off2 S O) := sans_mono_le h1
  exact ⟨⟨h.base.trans h2, h.pool.le h1, View.see_put_same _ _ _, hl.mono h2, hf.mono h2⟩, h2⟩
/-- A row made anew stands beside the pool and the box. -/
theorem StR.off {V0 V V' : View} {O : Nat → Prop} {S : Nat} {A : PAd} {C : Chp} {P : Pol} {lv fs : Sl} {live fresh : List Pg} (h : StR V0 V O S A C P lv fs live fresh) (_hV : V.Le V') {i : Nat} {o : Obj} (hi : V.see i = none) (ho : V'.see i = some o) : (V'.off2 S O).see i = some o := by
  have h1 : i ≠ S := by rintro rfl; rw [h.box] at hi; cases hi
  have h2 : ¬ O i := fun e => h.pool.seen i e (by rw [hide_see, if_neg h1]; exact hi)
  unfold View.off2
  rw [sans_no h2, hide_see, if_neg h1]; exact ho
/-- What is new, and what is seen beside the pool and the box. -/
theorem StR.rowOff {α : Type} [Rep α] {V0 V V' : View} {O : Nat → Prop} {S : Nat} {A : PAd} {C : Chp} {P : Pol} {lv fs : Sl} {live fresh : List Pg} (h : StR V0 V O S A C P lv fs live fresh) (hV : V.Le V') {x : Sl} {e : TypeId} {cs : List Value} {l : List α} (hb : Buf V' x e (Rep.sz α) cs) (hn : ∀ a, x.a = some a → V.see a.block = none) (hr : repL (V'.off2 S O) cs l) : SlR (V'.off2 S O) x l := by
  have hb' : Buf (V'.off2 S O) x e (Rep.sz α) cs := by
    refine ⟨hb.len, hb.le, hb.lim, hb.own.imp id ?_⟩
    rintro ⟨r, all, a, b, c⟩
    exact ⟨r, all, a, h.off hV (hn _ a) b, c⟩
  exact hb'.slR hr (View.Le.refl _)
theorem newOff {V V' : View} {z : Sl} (h : V.Le (V'.minus z)) : ∀ a, z.a = some a → V.see a.block = none := fun a ha => by
  cases hs : V.see a.block with
  | none => rfl
  | some o => exact absurd rfl (minus_ne (h.see _ _ hs) a ha)
section
variable {V0 V : View} {O : Nat → Prop} {S : Nat} {A : PAd} {C : Chp} {P : Pol} {lv fs : Sl} {live fresh : List Pg}
theorem stBlocks_ok (h : StR V0 V O S A C P lv fs live fresh) (hq : Quiet C) : CallV Tryz.prog 28 ⟨[.pointer (some ⟨A.c, 0, none⟩)]⟩ V fun r V' => ∃ y : Sl, r = .slice y.a y.n y.c ∧ V.Le V' ∧ SlR V' y (C.bl.map Prod.snd) := by
  refine (h.ask (K := fun r U' => ∃ y : Sl, r = .slice y.a y.n y.c ∧ SlR (U'.sans O) y (C.bl.map Prod.snd)) ((blocks_ok h.pool.chip h.pool.seen hq.sz).mono ?_)).mono ?_
  · rintro r V1 ⟨y, rfl, hV1, hy⟩
    exact ⟨⟨y, rfl, hy⟩, hV1⟩
  · rintro r V1 ⟨U', ⟨y, rfl, hy⟩, hU, hV⟩
    exact ⟨y, rfl, hV, hy.mono ((sans_le _ _).trans (hU.trans (View.hide_le _ _)))⟩
theorem stBads_ok (h : StR V0 V O S A C P lv fs live fresh) (hq : Quiet C) : CallV Tryz.prog 19 ⟨[.pointer (some ⟨A.p, 0, none⟩)]⟩ V fun r V' => r = .int .i64 0 ∧ V.Le V' := by
  refine (h.ask (K := fun r _ => r = .int .i64 0) (bads_ok h.pool hq)).mono ?_
  rintro r V1 ⟨U', rfl, _, hV⟩
  exact ⟨rfl, hV⟩
theorem stOver_ok (h : StR V0 V O S A C P lv fs live fresh) (hq : Quiet C) (hs : 0 ≤ P.g.sp) : CallV Tryz.prog 20 ⟨[.pointer (some ⟨A.p, 0, none⟩)]⟩ V fun r V' => r = .bool false ∧ V.Le V' := by
  refine (h.ask (K := fun r _ => r = .bool false) (over_ok h.pool hq hs)).mono ?_
  rintro r V1 ⟨U', rfl, _, hV⟩
  exact ⟨rfl, hV⟩
theorem stSeq_ok (h : StR V0 V O S A C P lv fs live fresh) : CallV Tryz.prog 18 ⟨[.pointer (some ⟨A.p, 0, none⟩)]⟩ V fun r V' => r = .int .i64 P.seq ∧ V.Le V' := by
  refine (h.ask (K := fun r _ => r = .int .i64 P.seq) ((polSeq_ok h.pool).mono ?_)).mono ?_
  · rintro r V1 ⟨rfl, rfl⟩; exact ⟨rfl, View.Le.refl _⟩
  · rintro r V1 ⟨U', rfl, _, hV⟩
    exact ⟨rfl, hV⟩
theorem stBill_ok (h : StR V0 V O S A C P lv fs live fresh) : CallV Tryz.prog 65 ⟨[.pointer (some ⟨A.c, 0, none⟩)]⟩ V fun r V' => r = .agg ⟨[.int .i64 C.reads, .int .i64 C.progs, .int .i64 C.erases]⟩ ∧ V.Le V' := by
  refine (h.ask (K := fun r _ => r = .agg ⟨[.int .i64 C.reads, .int .i64 C.progs, .int .i64 C.erases]⟩) ((bill_ok h.pool.chip).mono ?_)).mono ?_
  · rintro r V1 ⟨rfl, rfl⟩; exact ⟨rfl, View.Le.refl _⟩
  · rintro r V1 ⟨U', rfl, _, hV⟩
    exact ⟨rfl, hV⟩
theorem bif3 (p q r : Prop) [Decidable p] [Decidable q] [Decidable r] : (bif bif decide p then true else decide q then true else decide r) = decide ((p ∨ q) ∨ r) := by
  rw [bif_or, bif_or]
theorem stFits_ok (h : StR V0 V O S A C P lv fs live fresh) (hq : Quiet C) (hm : mayC P.g = true) (hbl : 0 < C.bl.length) {a b e : Int} (ha : 0 ≤ C.reads - a ∧ C.reads - a ≤ 1) (hb : 0 ≤ C.progs - b ∧ C.progs - b ≤ 1) (he : C.erases = e) (hf : floorC P.g 0 ≤ cleanN C) :
    CallV Tryz.prog 67 ⟨[.pointer (some ⟨S, 0, none⟩), .agg ⟨[.int .i64 a, .int .i64 b, .int .i64 e]⟩, .int .i64 0]⟩ V fun r V' => r = .bool true ∧ V.Le V' := by
  have hma := mayC_all hm
  have hr := hq.reads
  have hp := hq.progs
  have hlen := h.pool.chip.len
  refine f67_x ?_
  unfold f67_n
  intro _
  refine ⟨_, rfl, _, h.cell 0 rfl, (stBlocks_ok h hq).mono ?_⟩
  rintro r V1 ⟨y, rfl, hV1, hy⟩
  have h1 := h.le hV1
  have hyl : (C.bl.map Prod.snd).length ≤ 64 := by rw [List.length_map]; exact hlen
  refine ⟨y, rfl, trivial, V1, View.Le.refl _, _, rfl, 0, h1.cell 7 rfl, (blkBad_ok hy).mono ?_⟩
  rintro r V2 ⟨rfl, rfl⟩
  rw [hq.bad0]
  refine ⟨_, rfl, View.Le.refl _, inI64 (by simp) (by simp), _, rfl, _, h1.cell 0 rfl, (stBill_ok h1).mono ?_⟩
  rintro r V3 ⟨rfl, hV3⟩
  have h3 := h1.le hV3
  have hy3 := hy.mono hV3
  refine ⟨_, _, _, rfl, fun _ => ⟨inI64 (by omega) (by omega), inI64 (by omega) (by omega), inI64 (by omega) (by omega), fun _ => ⟨_, rfl, _, _, _, _, _, h3.cfg, inI64 (by simp) (by simp), ?_⟩⟩⟩
  obtain ⟨n, hn, hprice⟩ := rPrice_ok (V := V3) P.g hm
  refine hprice.mono ?_
  rintro r V4 ⟨rfl, rfl⟩
  refine ⟨_, _, _, rfl, fun _ => joinP_cut (fun z V' => z.1 = false ∧ V4.Le V') ⟨trivial, V4, View.Le.refl _, br_intro (fun hc => ?_) (fun _ => ?_)⟩ (fun z V5 hz => ?_)⟩
  · rw [bif3] at hc
    have hc := of_decide_eq_true hc
    omega
  · refine ⟨_, rfl, _, h3.cell 1 rfl, (stBads_ok h3 hq).mono ?_⟩
    rintro r V5 ⟨rfl, hV5⟩
    have h5 := h3.le hV5
    refine ⟨_, rfl, hV5, V5, hV5, View.Le.refl _, br_intro (fun hc => by simp at hc) (fun _ => ⟨_, rfl, _, h5.cell 1 rfl, _, rfl, P.g.sp, ?_, (stOver_ok h5 hq (by omega)).mono ?_⟩)⟩
    · rw [Addr.add_add]; exact h5.cell 4 rfl
    · rintro r V6 ⟨rfl, hV6⟩
      refine ⟨_, rfl, hV6, ?_, hV5.trans hV6⟩
      show (!false == decide (P.g.sp < ((0 : Nat) : Int) - 0)) = false
      rw [decide_eq_false (by omega)]; rfl
  rcases z with ⟨z, ⟨⟩⟩
  obtain ⟨hz, hV5⟩ := hz
  try simp only at hz
  dsimp only [unc]
  subst hz
  have h5 := h3.le hV5
  have hy5 := hy3.mono hV5
  refine br_intro (fun hc => by cases hc) (fun _ => joinP_cut (fun z V' => z.1 = true ∧ V5.Le V') ⟨trivial, V5, View.Le.refl _, _, rfl, P.g.sp, by rw [Addr.add_add]; exact h5.cell 4 rfl, br_intro (fun hc => ?_) (fun _ => ⟨_, rfl, 0, h5.cell 13 rfl, br_intro (fun hc => by simp at hc) (fun _ => ⟨_, rfl, _, _, _, _, _, h5.cfg, (blkCleans_ok hy5 hyl).mono ?_⟩)⟩)⟩ (fun z V6 hz => ?_))
  · have hc := of_decide_eq_true hc
    simp at hc
    omega
  · rintro r V6 ⟨z, rfl, hV6, hz⟩
    have hzn := hz.n
    have h6 := h5.le hV6
    refine ⟨z, rfl, hV6, V6, hV6, View.Le.refl _, (planFloor_ok P.g _ (by simp)).mono ?_⟩
    rintro r V7 ⟨rfl, rfl⟩
    refine ⟨_, rfl, View.Le.refl _, V7, View.Le.refl _, View.Le.refl _, br_intro (fun _ => ⟨_, rfl, P.g.we, ?_, inI64 (by omega) (by omega), ?_⟩) (fun hc => ?_)⟩
    · rw [Addr.add_add]; exact h6.cell 6 rfl
    · have hy7 := hy5.mono hV6
      refine (blkCounts_ok hy7 hyl).mono ?_
      rintro r V8 ⟨c, rfl, hV8, hc⟩
      refine ⟨c, rfl, hV8, (blkGood_ok (hy7.mono hV8) hyl).mono ?_⟩
      rintro r V9 ⟨d, rfl, hV9, hd⟩
      refine ⟨d, rfl, hV8.trans hV9, (apart_ok (lo := 0) (hi := 0) (hc.mono hV9) hd (by simp) (by simpa using hbl) (by rw [List.length_map]; omega) ?_ (by omega) (by omega)).mono ?_⟩
      · intro x hx
        obtain ⟨b, hb, rfl⟩ := List.mem_map.1 hx
        obtain ⟨q, hqm, rfl⟩ := List.mem_map.1 hb
        have := (hq.bl q hqm).2.1
        omega
      · rintro r V10 ⟨⟨n, rfl, h0, h1⟩, hV10⟩
        refine ⟨n, rfl, (hV8.trans hV9).trans hV10, ?_, ((hV6.trans hV8).trans hV9).trans hV10⟩
        exact decide_eq_true (by omega)
    · exfalso
      have hc := of_decide_eq_false hc
      apply hc
      rw [hzn, List.length_map]
      exact hf
  rcases z with ⟨z, ⟨⟩⟩
  obtain ⟨hz, hV6⟩ := hz
  try simp only at hz
  dsimp only [unc]
  exact ⟨by rw [hz], (((hV1.trans hV3).trans hV5).trans hV6)⟩
end
section
variable {V0 V : View} {O : Nat → Prop} {S : Nat} {A : PAd} {C : Chp} {P : Pol} {lv fs : Sl} {live fresh : List Pg}
/-- A copy of some bytes. -/
theorem copy8 {V : View} {s : Sl} {l : List UInt8} (h : SlR V s l) (hl : l.length ≤ 1000000) {K : Nat → View → Prop} {D : Sl → View → Prop} (hK : ∀ r, V.size ≤ r → K r (V.put r (.cells ⟨[]⟩ 5 (0, 0)))) (hD : ∀ x V', Fresh8 V V' x l → D x V') :
    newB V (.cells ⟨[]⟩ 5 (0, 0)) fun r V => K r V ∧ apV V 5 1 1 [.int .u8 0] ⟨some ⟨r, 0, none⟩, 0, 0⟩ (.slice s.a s.n s.c) D := by
  intro r hr
  have hfr : V.see r = none := View.see_none_of_ge hr
  have hn := h.n
  refine ⟨hK r hr, apV_buf (cs := []) (src := u8s l) (m := s.n) rfl ⟨rfl, Nat.le_refl _, Nat.zero_le _, .inr ⟨r, [], rfl, View.see_put_same _ _ _, rfl, rfl⟩⟩ ⟨rfl, (h.mono (View.put_le hfr)).row8⟩ (by rw [u8s_len, hn]; omega) (u8s_one l) (by simp <;> omega) (by simp <;> omega) ?_⟩
  intro x V' hb _ hle
  exact hD x V' ⟨hb, View.Le.trans (put_le_hide hfr (View.Le.refl _)) hle⟩
/-- A page behind none. -/
theorem StR.page (h : StR V0 V O S A C P lv fs live fresh) {x : Pg} {s : Sl} (h1 : inI .i64 x.r.page) (h2 : inI .i64 x.r.seq) (hs : SlR (V.off2 S O) s x.b) {D : Sl → View → Prop} {K : Nat → View → Prop} (hK : ∀ r, V.size ≤ r → K r (V.put r (.cells ⟨[.int .i64 x.r.page, .int .i64 x.r.seq, .slice s.a s.n s.c]⟩ 58 (0, 0)))) (hD : ∀ z V', V.Le V' → SlR (V'.off2 S O) z [x] → D z V') :
    newB V (.cells ⟨[.int .i64 x.r.page, .int .i64 x.r.seq, .slice s.a s.n s.c]⟩ 58 (0, 0)) fun r V => K r V ∧ apV V 58 3 40 [.int .i64 0, .int .i64 0, .slice none 0 0] ⟨none, 0, 0⟩ (.slice (some ⟨r, 0, none⟩) 1 1) D := by
  intro r hr
  have hfr : V.see r = none := View.see_none_of_ge hr
  have hp := View.put_le (o := .cells ⟨[.int .i64 x.r.page, .int .i64 x.r.seq, .slice s.a s.n s.c]⟩ 58) hfr
  refine ⟨hK r hr, apV_buf (cs := []) (src := [.int .i64 x.r.page, .int .i64 x.r.seq, .slice s.a s.n s.c]) (m := 1) rfl (Buf.nil _ _ _) ⟨rfl, rowAt_new (View.see_put_same _ _ _) rfl⟩ rfl rfl (by simp) (by simp) ?_⟩
  intro z V' hb _ hle
  have hle' : V.Le (V'.minus z) := hp.trans hle
  have hV : V.Le V' := hle'.trans (View.minus_le _ _)
  refine hD z V' hV (h.rowOff hV hb (newOff hle') ?_)
  exact ⟨_, [], rfl, ⟨s, rfl, h1, h2, hs.mono (off2_mono hV)⟩, rfl⟩
theorem stPut_ok (h : StR V0 V O S A C P lv ⟨none, 0, 0⟩ live []) (hq : Quiet C) (hft : fitsC P.g 0 = true) (hg : P.g.pg = C.pages) (hbl : 0 < C.bl.length) (ho : P.opn = -1 ∨ ∃ k : Nat, P.opn = k ∧ k < C.bl.length) (hf : ¬ usable C P.opn → floorC P.g 0 < cleanN C) (hcl : ∀ i hi b, goes C P.opn i → floorC P.g 0 ≤ cleanN (progC C i b hi)) (hpr : C.progs < 1000) (hsq : 0 ≤ P.seq ∧ P.seq ≤ 1000)
    (hT : P.T.length < P.g.da + 6) (hfr : P.fr.length ≤ 1000) (hll : live.length < P.g.da + 6) {page : Int} {s pk : Sl} {d : List UInt8} (hd : SlR V0 s d) (hm : MayS page (P.seq + 1) d) (hpg : page ≠ 0) {c1 c2 c3 : Int} :
    CallV Tryz.prog 23 ⟨[.pointer (some ⟨S, 0, none⟩), .agg ⟨[.int .i64 c1, .int .i64 c2, .int .i64 c3, .int .i64 page, .slice s.a s.n s.c, .slice pk.a pk.n pk.c]⟩]⟩ V fun r V' => r = .bool true ∧ ∃ (O' : Nat → Prop) (f z : Sl) (i : Nat) (hi : i < C.bl.length), goes C P.opn i ∧ C.bl[i].2.nxt < C.pages ∧ StR V0 V' O' S { A with f := f } (progC C i (laidS page (P.seq + 1) d) hi) { P with seq := P.seq + 1, opn := i, T := putT (page, P.seq + 1) ((i : Int), C.bl[i].2.nxt) P.T, fr := P.fr ++ [⟨page, P.seq + 1⟩] } lv z live [⟨⟨page, P.seq + 1⟩, d⟩] := by
  have hmC := mayC_fits hft
  have hma := mayC_all hmC
  have hr := hq.reads
  have hp := hq.progs
  have hlen := h.pool.chip.len
  have hn := hd.n
  have hlvn := h.lv.n
  have hP := hm
  refine f23_x ?_
  unfold f23_n
  intro _
  -- what was
  refine joinP_cut (fun z V' => z = (0, C.reads, C.progs, C.erases, ()) ∧ V.Le V') ⟨trivial, V, View.Le.refl _, _, rfl, _, h.cell 0 rfl, _, rfl, _, h.cell 1 rfl, ?_, fun _ => ⟨View.Le.refl _, ?_⟩⟩ (fun z V1 hz => ?_)
  · refine (stBill_ok h).mono ?_
    rintro r V1 ⟨rfl, hV1⟩
    refine ⟨_, _, _, rfl, hV1, ?_, fun _ => ⟨hV1, ?_⟩⟩
    · refine (stBads_ok (h.le hV1) hq).mono ?_
      rintro r V2 ⟨rfl, hV2⟩
      exact ⟨_, rfl, hV1.trans hV2, fun _ => ⟨hV1.trans hV2, rfl, hV1.trans hV2⟩⟩
    · refine (stBads_ok (h.le hV1) hq).mono ?_
      rintro r V2 ⟨rfl, hV2⟩
      exact ⟨_, rfl, hV1.trans hV2, rfl, hV1.trans hV2⟩
  · refine (stBill_ok h).mono ?_
    rintro r V1 ⟨rfl, hV1⟩
    refine ⟨_, _, _, rfl, hV1, (stBads_ok (h.le hV1) hq).mono ?_⟩
    rintro r V2 ⟨rfl, hV2⟩
    exact ⟨_, rfl, hV1.trans hV2, rfl, hV1.trans hV2⟩
  obtain ⟨rfl, hV1⟩ := hz
  dsimp only [unc]
  have h1 := h.le hV1
  intro _
  -- the sheet
  refine joinP_cut (fun z V' => z = (page, P.seq + 1, s, ()) ∧ V1.Le V') ⟨trivial, V1, View.Le.refl _, _, rfl, _, h1.cell 1 rfl, ?_, fun _ => ⟨View.Le.refl _, ?_⟩⟩ (fun z V2 hz => ?_)
  · refine (stSeq_ok h1).mono ?_
    rintro r V2 ⟨rfl, hV2⟩
    exact ⟨_, rfl, hV2, inI64 (by omega) (by omega), fun _ => ⟨hV2, rfl, hV2⟩⟩
  · refine (stSeq_ok h1).mono ?_
    rintro r V2 ⟨rfl, hV2⟩
    exact ⟨_, rfl, hV2, inI64 (by omega) (by omega), rfl, hV2⟩
  obtain ⟨rfl, hV2⟩ := hz
  dsimp only [unc]
  have h2 := h1.le hV2
  intro _
  -- Put
  have put : CallV Tryz.prog 12 ⟨[.pointer (some ⟨A.p, 0, none⟩), .int .i64 page, .slice s.a s.n s.c]⟩ V2 fun r V' => r = .tuple ⟨[encP (page, P.seq + 1), .int .i64 0]⟩ ∧ (∃ (O' : Nat → Prop) (f : Sl) (i : Nat) (hi : i < C.bl.length), goes C P.opn i ∧ C.bl[i].2.nxt < C.pages ∧ StR V0 V' O' S { A with f := f } (progC C i (laidS page (P.seq + 1) d) hi) { P with seq := P.seq + 1, opn := i, T := putT (page, P.seq + 1) ((i : Int), C.bl[i].2.nxt) P.T, fr := P.fr ++ [⟨page, P.seq + 1⟩] } lv ⟨none, 0, 0⟩ live []) ∧ (V2.sans O).Le V' := by
    refine (h2.op (K := fun r O' A' C' P' _ => r = .tuple ⟨[encP (page, P.seq + 1), .int .i64 0]⟩ ∧ ∃ (f : Sl) (i : Nat) (hi : i < C.bl.length), goes C P.opn i ∧ C.bl[i].2.nxt < C.pages ∧ A' = { A with f := f } ∧ C' = progC C i (laidS page (P.seq + 1) d) hi ∧ P' = { P with seq := P.seq + 1, opn := i, T := putT (page, P.seq + 1) ((i : Int), C.bl[i].2.nxt) P.T, fr := P.fr ++ [⟨page, P.seq + 1⟩] }) ((polPut_ok h2.pool hq (by omega) hg (by omega) ho hf (by omega) ⟨by omega, by omega⟩ ⟨by omega, by omega⟩ hT hfr (hd.mono h2.base) hm hpg).mono ?_)).mono ?_
    · rintro r U' ⟨rfl, i, hi, f, g1, g2, g3, g4, g5⟩
      exact ⟨_, _, _, _, ⟨rfl, f, i, hi, g1, g2, rfl, rfl, rfl⟩, g3, g4, g5, rfl, rfl, rfl⟩
    · rintro r V' ⟨O', A', C', P', U', ⟨rfl, f, i, hi, g1, g2, rfl, rfl, rfl⟩, _, g3, _, g4⟩
      exact ⟨rfl, ⟨O', f, i, hi, g1, g2, g3⟩, g4⟩
  refine joinP_cut (fun z V' => z = (0, page, P.seq + 1, ()) ∧ ∃ (O' : Nat → Prop) (f : Sl) (i : Nat) (hi : i < C.bl.length), goes C P.opn i ∧ C.bl[i].2.nxt < C.pages ∧ StR V0 V' O' S { A with f := f } (progC C i (laidS page (P.seq + 1) d) hi) { P with seq := P.seq + 1, opn := i, T := putT (page, P.seq + 1) ((i : Int), C.bl[i].2.nxt) P.T, fr := P.fr ++ [⟨page, P.seq + 1⟩] } lv ⟨none, 0, 0⟩ live []) ⟨trivial, V2.sans O, sans_le _ _, _, rfl, some ⟨A.p, 0, none⟩, ?_, ?_, fun _ => ⟨sans_le _ _, ?_⟩⟩ (fun z V3 hz => ?_)
  · have hnS : ¬ O S := fun e => h2.pool.seen S e (by rw [hide_see, if_pos rfl])
    exact bx (by rw [sans_no hnS]; exact h2.box) 1 rfl
  · refine put.mono ?_
    rintro r V3 ⟨rfl, hst, hle⟩
    exact ⟨_, _, _, rfl, hle, fun _ => ⟨hle, rfl, hst⟩⟩
  · refine put.mono ?_
    rintro r V3 ⟨rfl, hst, hle⟩
    exact ⟨_, _, _, rfl, hle, rfl, hst⟩
  obtain ⟨rfl, O', f, i, hi, g1, g2, h3⟩ := hz
  dsimp only [unc]
  intro _
  refine joinP_cut (fun z V' => z.1 = false ∧ V3.Le V') (br_intro (fun h0 => absurd (of_decide_eq_true h0) hpg) (fun _ => ?_)) (fun z V4 hz => ?_)
  · refine (rMaySheet_ok (hd.mono (h3.base.trans (off2_le _ _ _)))).mono ?_
    rintro r V4 ⟨rfl, hV4⟩
    rw [mayS_iff.2 hm]
    exact ⟨_, rfl, rfl, hV4⟩
  rcases z with ⟨z, ⟨⟩⟩
  obtain ⟨hz, hV4⟩ := hz
  try simp only at hz
  dsimp only [unc]
  subst hz
  have h4 := h3.le hV4
  refine br_intro (fun h0 => by cases h0) (fun _ => ⟨trivial, V4, View.Le.refl _, _, rfl, lv, h4.cell 8 rfl, _, rfl, ⟨none, 0, 0⟩, h4.cell 9 rfl, inI64 (by simp <;> omega) (by simp <;> omega), _, rfl, P.g.da, by rw [Addr.add_add]; exact h4.cell 5 rfl, inI64 (by omega) (by omega), inI64 (by omega) (by omega), br_intro (fun h0 => ?_) (fun _ => br_intro (fun h0 => by simp at h0) (fun _ => br_intro (fun h0 => by simp at h0) (fun _ => ⟨trivial, V4, View.Le.refl _, _, rfl, ⟨none, 0, 0⟩, h4.cell 9 rfl, ?_⟩)))⟩)
  · have h0 := of_decide_eq_true h0
    have h0' : P.g.da + 1 + 5 ≤ (lv.n : Int) + 0 := h0
    omega
  have fr : ∀ {W : View} {r : Nat} {o : Obj}, W.size ≤ r → W.Le (W.put r o) := fun h => View.put_le (View.see_none_of_ge h)
  have hd4 : SlR V4 s d := hd.mono (h4.base.trans (off2_le _ _ _))
  refine copy8 hd4 (by have := hm.dl; omega) (K := fun r W => V4.Le W) (fun r hr => fr hr) fun x V5 hx => ⟨hx.vle, ?_⟩
  have h5 := h4.le hx.vle
  have hx5 : SlR (V5.off2 S O') x d := h4.rowOff hx.vle hx.buf (newOff hx.le) (u8s_rep d)
  refine h5.page (x := ⟨⟨page, P.seq + 1⟩, d⟩) (inI64 (by have := hm.p0; show -9223372036854775808 ≤ page; omega) (by have := hm.p1; show page ≤ 9223372036854775807; omega)) (inI64 (by simp <;> omega) (by simp <;> omega)) hx5 (K := fun r W => V4.Le W) (fun r hr => hx.vle.trans (fr hr)) fun z V6 hV6 hz => ?_
  have h6 := h5.le hV6
  obtain ⟨h7, _⟩ := h6.set (h6.lv) hz
  have e7 : V6.sets ((⟨S, 0, none⟩ : Addr).add 9) [.slice z.a z.n z.c] = V6.put S (.cells ⟨stL { A with f := f } P.g lv z⟩ 60 (0, 0)) := by rw [bxe h6.box]; rfl
  refine ⟨_, rfl, bxc h6.box 9 1 (by simp [stL]), ?_⟩
  rw [e7]
  refine joinP_cut (fun y V' => y.1 = true ∧ StR V0 V' O' S { A with f := f } (progC C i (laidS page (P.seq + 1) d) hi) { P with seq := P.seq + 1, opn := i, T := putT (page, P.seq + 1) ((i : Int), C.bl[i].2.nxt) P.T, fr := P.fr ++ [⟨page, P.seq + 1⟩] } lv z live [⟨⟨page, P.seq + 1⟩, d⟩]) (br_intro (fun _ => ⟨trivial, br_intro (fun _ => ?_) (fun h0 => by simp at h0)⟩) (fun h0 => by simp at h0)) (fun y V8 hy => ?_)
  · have hq7 : Quiet (progC C i (laidS page (P.seq + 1) d) hi) := hq.prog hi g2 (by have := (mayS_iff.2 hm); have := hm.ll; omega) (by omega)
    refine ⟨_, rfl, _, h7.cell 1 rfl, (stOver_ok h7 hq7 (by show 0 ≤ P.g.sp; omega)).mono ?_⟩
    rintro r V8 ⟨rfl, hV8⟩
    have h8 := h7.le hV8
    refine ⟨_, rfl, br_intro (fun _ => (stFits_ok h8 hq7 hmC (by show 0 < (C.bl.set _ _).length; rw [List.length_set]; exact hbl) ⟨by show 0 ≤ C.reads - C.reads; omega, by show C.reads - C.reads ≤ 1; omega⟩ ⟨by show 0 ≤ C.progs + 1 - C.progs; omega, by show C.progs + 1 - C.progs ≤ 1; omega⟩ rfl (hcl i hi _ g1)).mono ?_) (fun h0 => by cases h0)⟩
    rintro r V9 ⟨rfl, hV9⟩
    exact ⟨_, rfl, rfl, h8.le hV9⟩
  rcases y with ⟨y, ⟨⟩⟩
  obtain ⟨hy, h8⟩ := hy
  try simp only at hy
  dsimp only [unc]
  exact ⟨by rw [hy], O', f, z, i, hi, g1, g2, h8⟩
end
theorem rowAt_up {V V' : View} (h : V.Le V') {a : Option Addr} {n : Nat} {cs : List Value} (hr : rowAt V a n cs) : rowAt V' a n cs := by
  cases a with
  | none => exact hr
  | some a => exact ⟨hr.1, cellsAt_mono h hr.2⟩
theorem refs10_ok {V : View} {s : Sl} {l : List Pg} (h : SlR V s l) (hl : l.length ≤ 1000) : CallV Tryz.prog 68 ⟨[.slice s.a s.n s.c]⟩ V fun r V' => ∃ (y : Sl) (cs : List Value), r = .slice y.a y.n y.c ∧ Buf V' y 33 2 cs ∧ repL V cs (l.map (·.r)) ∧ V.Le (V'.minus y) := by
  refine f68_x ?_
  unfold f68_n
  have hn := h.n
  refine loop2 (k := .sl) (l := .int .i64) (fun (o : Sl) (i : Int) V' => ∃ (j : Nat) (cs : List Value), i = j ∧ j ≤ l.length ∧ Buf V' o 33 2 cs ∧ repL V cs ((l.take j).map (·.r)) ∧ V.Le (V'.minus o)) (fun _ (i : Int) _ => l.length - i.toNat) ⟨0, [], rfl, Nat.zero_le _, Buf.nil _ _ _, rfl, View.Le.refl _⟩ ?_
  rintro (o : Sl) (i : Int) V1 ⟨j, cs, rfl, hj, hb, hr, hle⟩
  have hV1 : V.Le V1 := hle.trans (View.minus_le _ _)
  refine br_intro (fun hlt => ?_) (fun hge => ?_)
  · have hlt : j < l.length := by have := of_decide_eq_true hlt; omega
    obtain ⟨ad, y, hx, ha, hc, h1, h2, _⟩ := (h.mono hV1).pg (x := (j : Int)) (by omega) (by omega)
    have hon := hb.n_eq (α := Rf) hr
    rw [List.length_map, List.length_take, Nat.min_eq_left hj] at hon
    refine ⟨by omega, by omega, ad, ha, _, _, y, hc, fun _ r hr1 => ?_⟩
    have hfr : V1.see r = none := View.see_none_of_ge hr1
    refine apV_buf rfl (hb.put hfr) (src := [.int .i64 l[(j : Int).toNat].r.page, .int .i64 l[(j : Int).toNat].r.seq]) (m := 1) ⟨rfl, rowAt_new (View.see_put_same _ _ _) rfl⟩ rfl rfl (by show (o.n + 1) * 16 ≤ _; omega) (by show o.n + 1 ≤ _; omega) fun s V' h2' _ hle' => ?_
    refine ⟨inI64 (by omega) (by omega), ⟨j + 1, _, by omega, by omega, h2', ?_, hle.trans ((put_minus_le hfr).trans hle')⟩, by omega⟩
    rw [List.take_add_one, List.getElem?_eq_getElem hlt, List.map_append]
    exact hr.snoc (x := l[(j : Int).toNat].r) ⟨rfl, h1, h2⟩
  · have hge : j = l.length := by have := of_decide_eq_false hge; omega
    subst hge
    rw [List.take_length] at hr
    exact ⟨o, cs, rfl, hb, hr, hle⟩
/-- One new page, which is picked. -/
theorem picked1_ok {W V : View} (hW : W.Le V) {lv fs pk : Sl} {x : Pg} (hl : lv.n = 0) (hf : SlR W fs [x]) (hp : SlR V pk [true]) (hpg : x.r.page ≠ 0) {k : Int} (hk : 1 ≤ k) :
    CallV Tryz.prog 32 ⟨[.slice lv.a lv.n lv.c, .slice fs.a fs.n fs.c, .slice pk.a pk.n pk.c, .int .i64 k]⟩ V fun r V' => ∃ o y : Sl, r = .slice o.a o.n o.c ∧ o.n = 1 ∧ Buf V' o 58 3 [.int .i64 x.r.page, .int .i64 x.r.seq, .slice y.a y.n y.c] ∧ V.Le (V'.minus o) ∧ SlR W y x.b ∧ inI .i64 x.r.page ∧ inI .i64 x.r.seq := by
  obtain ⟨la, ln, lc⟩ := lv
  obtain rfl : ln = 0 := hl
  have hfn := hf.n
  have hpn := hp.n
  obtain ⟨cy, hrow, hcy⟩ := hf.row
  obtain ⟨c1, c2, e1, ⟨y, e2, h1, h2, hy⟩, h3⟩ := hcy
  have h3 : c2 = [] := h3
  subst e2 h3
  rw [List.append_nil] at e1
  subst e1
  refine f32_x (a0 := ⟨la, 0, lc⟩) ?_
  unfold f32_n
  intro r hr
  have hfr : V.see r = none := View.see_none_of_ge hr
  obtain ⟨cl, hlrow, hcl⟩ := (SlR.nil (α := Pg) (V.put r (.cells ⟨[]⟩ 58 (0, 0))) la lc).row
  have hcl : cl = [] := hcl
  subst hcl
  refine apV_buf (cs := []) (src := []) (m := 0) rfl ⟨rfl, Nat.le_refl _, Nat.zero_le _, .inr ⟨r, [], rfl, View.see_put_same _ _ _, rfl, rfl⟩⟩ ⟨rfl, hlrow⟩ rfl rfl (by simp) (by simp) fun s1 V1 hb1 hn1 hle1 => ?_
  have hV1 : V.Le (V1.minus s1) := View.Le.trans (put_le_hide hfr (View.Le.refl _)) hle1
  have hn1 : s1.n = 0 := hn1
  refine apV_buf (cs := []) (src := [.int .i64 x.r.page, .int .i64 x.r.seq, .slice y.a y.n y.c]) (m := fs.n) rfl hb1 ⟨rfl, rowAt_up (hW.trans (hV1.trans (View.minus_le _ _))) hrow⟩ (by rw [hfn]; rfl) rfl (by rw [hn1, hfn]; simp) (by rw [hn1, hfn]; simp) fun s V2 hb2 hn2 hle2 => ?_
  have hV2' : V.Le (V2.minus s) := hV1.trans hle2
  have hV2 : V.Le V2 := hV2'.trans (View.minus_le _ _)
  have hsn : s.n = 1 := by rw [hn2, hn1, hfn]; rfl
  have hs : SlR V2 s [x] := hb2.slR (W := W) (l := [x]) ⟨_, [], rfl, ⟨y, rfl, h1, h2, hy⟩, rfl⟩ (hW.trans hV2)
  refine ⟨inI64 (by omega) (by omega), loop2 (k := .sl) (l := .int .i64) (fun (o : Sl) (i : Int) V' => (i = 0 ∧ o = ⟨none, 0, 0⟩ ∧ V' = V2) ∨ (i = -1 ∧ o.n = 1 ∧ Buf V' o 58 3 [.int .i64 x.r.page, .int .i64 x.r.seq, .slice y.a y.n y.c] ∧ V.Le (V'.minus o))) (fun _ (i : Int) _ => (i + 1).toNat) (.inl ⟨by omega, rfl, rfl⟩) ?_⟩
  rintro (o : Sl) (i : Int) V3 (⟨rfl, rfl, rfl⟩ | ⟨rfl, hon, hb3, hle3⟩)
  · refine br_intro (fun _ => ?_) (fun h0 => by simp at h0)
    refine joinP_cut (fun z V' => z.1.n = 1 ∧ Buf V' z.1 58 3 [.int .i64 x.r.page, .int .i64 x.r.seq, .slice y.a y.n y.c] ∧ V.Le (V'.minus z.1)) ?_ (fun z V' hz => ?_)
    · obtain ⟨ad, y', hx, had, hc, _, _, _⟩ := hs.pg (x := (0 : Int)) (by omega) (by omega)
      have hcy' : cellsAt V3 (ad.add ((0 : Int).toNat * 3)) [.int .i64 x.r.page, .int .i64 x.r.seq, .slice y.a y.n y.c] := by
        have hrw := hb2.row
        rw [had, hsn] at hrw
        have := hrw.2
        simpa [Addr.add_zero] using this
      refine ⟨by omega, by omega, ad, had, _, _, y, hcy', fun _ => joinP_cut (fun z V' => z.1 = false ∧ V' = V3) (br_intro (fun h0 => ?_) (fun _ => ?_)) (fun z V' hz => ?_)⟩
      · rw [bif_or] at h0
        have h0 := of_decide_eq_true h0
        simp at hpn
        omega
      · obtain ⟨ad2, hx2, ha2, hc2⟩ := (hp.mono hV2).bool (x := (0 : Int)) (by omega) (by simp at hpn; omega)
        refine ⟨by omega, by simp at hpn; omega, ad2, ha2, _, hc2, ?_, rfl⟩
        show (bif !true then true else decide (k ≤ 0)) = false
        exact decide_eq_false (by omega)
      · rcases z with ⟨z, ⟨⟩⟩
        obtain ⟨hz, rfl⟩ := hz
        try simp only at hz
        dsimp only [unc]
        subst hz
        refine br_intro (fun h0 => by cases h0) (fun _ => loop2 (k := .bool) (l := .int .i64) (fun (b : Bool) (i : Int) V4 => b = false ∧ i = 0 ∧ V4 = V') (fun _ _ _ => 0) ⟨rfl, rfl, rfl⟩ ?_)
        rintro (b : Bool) (i : Int) V4 ⟨rfl, rfl, rfl⟩
        refine br_intro (fun h0 => by simp at h0) (fun _ => joinP_cut (fun z V' => z.1.n = 1 ∧ Buf V' z.1 58 3 [.int .i64 x.r.page, .int .i64 x.r.seq, .slice y.a y.n y.c] ∧ V.Le (V'.minus z.1)) (br_intro (fun _ r2 hr2 => ?_) (fun h0 => by simp at h0)) (fun z V5 hz => hz))
        have hfr2 : V4.see r2 = none := View.see_none_of_ge hr2
        refine apV_buf (x := ⟨none, 0, 0⟩) (cs := []) (src := [.int .i64 x.r.page, .int .i64 x.r.seq, .slice y.a y.n y.c]) (m := 1) rfl (Buf.nil _ _ _) ⟨rfl, rowAt_new (View.see_put_same _ _ _) rfl⟩ rfl rfl (by simp) (by simp) fun z V5 hb5 hn5 hle5 => ?_
        exact ⟨hn5, hb5, hV2.trans ((View.put_le hfr2).trans hle5)⟩
    · rcases z with ⟨z, ⟨⟩⟩
      obtain ⟨hz1, hz2, hz3⟩ := hz
      dsimp only [unc]
      exact ⟨inI64 (by omega) (by omega), .inr ⟨by omega, hz1, hz2, hz3⟩, by omega⟩
  · refine br_intro (fun h0 => by simp at h0) (fun _ => ⟨o, y, rfl, hon, hb3, hle3, hy, h1, h2⟩)
theorem minus_put_le2 {V : View} {x : Sl} {r : Nat} {o : Obj} (h : ∀ a, x.a = some a → a.block ≠ r) : ((V.minus x).put r o).Le ((V.put r o).minus x) := by
  refine ⟨?_, fun i ob hi => ?_, ?_⟩
  · rw [minus_size]
    show max (V.minus x).size _ ≤ max V.size _
    rw [minus_size]; exact Nat.le_refl _
  · by_cases e : i = r
    · subst e
      rw [View.see_put_same] at hi
      rw [minus_see h, View.see_put_same]; exact hi
    · rw [View.see_put_ne _ _ e] at hi
      have hne := minus_ne hi
      rw [minus_see hne] at hi ⊢
      rw [View.see_put_ne _ _ e]; exact hi
  · rw [minus_out]
    show V.out = (V.minus x).out
    rw [minus_out]
theorem Buf.minusOf {V : View} {o z : Sl} {e : TypeId} {sz : Nat} {cs : List Value} (h : Buf V z e sz cs) (hne : ∀ a b, z.a = some a → o.a = some b → b.block ≠ a.block) : Buf (V.minus o) z e sz cs := by
  refine ⟨h.len, h.le, h.lim, h.own.imp id ?_⟩
  rintro ⟨r, all, a, b, c⟩
  exact ⟨r, all, a, by rw [minus_see fun q hq => hne _ q a hq]; exact b, c⟩
/-- A row made beside another one. -/
theorem Buf.ne {V V1 : View} {o z : Sl} {e : TypeId} {sz : Nat} {cs : List Value} (h : Buf V1 o e sz cs) (hz : V1.Le (V.minus z)) : ∀ a b, z.a = some a → o.a = some b → b.block ≠ a.block := by
  intro a b ha hb
  rcases h.own with ⟨hn, _⟩ | ⟨r, all, h1, h2, _⟩
  · rw [hn] at hb; cases hb
  · rw [h1] at hb; cases hb
    have := minus_ne (hz.see _ _ h2) a ha
    exact fun e => this e.symm
section
variable {V0 V : View} {O : Nat → Prop} {S : Nat} {A : PAd} {C : Chp} {P : Pol} {lv fs : Sl}
theorem stSeal_ok {x : Pg} (h : StR V0 V O S A C P lv fs [] [x]) (hq : Quiet C) (hft : fitsC P.g 0 = true) (hg : P.g.pg = C.pages) (hbl : 0 < C.bl.length) (ho : P.opn = -1 ∨ ∃ k : Nat, P.opn = k ∧ k < C.bl.length) (hf : ¬ usable C P.opn → floorC P.g 0 < cleanN C) (hcl : ∀ i hi b, goes C P.opn i → floorC P.g 0 ≤ cleanN (progC C i b hi)) (hpr : C.progs < 1000) (hsq : 0 ≤ P.seq ∧ P.seq ≤ 1000)
    (hT : P.T.length ≤ 1000) {s pk : Sl} {d : List UInt8} (hd : SlR V0 s d) (hpk : SlR V0 pk [true]) (hm : MayS 0 (P.seq + 1) d) (hxp : x.r.page ≠ 0) (hw : wrongL P.T P.g.da [x.r] = false) {c1 c2 c3 c4 : Int} :
    CallV Tryz.prog 24 ⟨[.pointer (some ⟨S, 0, none⟩), .agg ⟨[.int .i64 c1, .int .i64 c2, .int .i64 c3, .int .i64 c4, .slice s.a s.n s.c, .slice pk.a pk.n pk.c]⟩]⟩ V fun r V' => r = .bool true ∧ ∃ (O' : Nat → Prop) (z : Sl) (i : Nat) (hi : i < C.bl.length), goes C P.opn i ∧ C.bl[i].2.nxt < C.pages ∧ StR V0 V' O' S { A with f := ⟨none, 0, 0⟩ } (progC C i (laidS 0 (P.seq + 1) d) hi) { P with seq := P.seq + 1, opn := i, T := keepT (0, P.seq + 1) [x.r] (putT (0, P.seq + 1) ((i : Int), C.bl[i].2.nxt) P.T), fr := [] } z ⟨none, 0, 0⟩ [x, ⟨⟨0, P.seq + 1⟩, d⟩] [] := by
  have hmC := mayC_fits hft
  have hma := mayC_all hmC
  have hr := hq.reads
  have hp := hq.progs
  have hlen := h.pool.chip.len
  have hn := hd.n
  have hlvn := h.lv.n
  refine f24_x ?_
  unfold f24_n
  intro _
  -- what was
  refine joinP_cut (fun z V' => z = (0, C.reads, C.progs, C.erases, ()) ∧ V.Le V') ⟨trivial, V, View.Le.refl _, _, rfl, _, h.cell 0 rfl, _, rfl, _, h.cell 1 rfl, ?_, fun _ => ⟨View.Le.refl _, ?_⟩⟩ (fun z V1 hz => ?_)
  · refine (stBill_ok h).mono ?_
    rintro r V1 ⟨rfl, hV1⟩
    refine ⟨_, _, _, rfl, hV1, ?_, fun _ => ⟨hV1, ?_⟩⟩
    · refine (stBads_ok (h.le hV1) hq).mono ?_
      rintro r V2 ⟨rfl, hV2⟩
      exact ⟨_, rfl, hV1.trans hV2, fun _ => ⟨hV1.trans hV2, rfl, hV1.trans hV2⟩⟩
    · refine (stBads_ok (h.le hV1) hq).mono ?_
      rintro r V2 ⟨rfl, hV2⟩
      exact ⟨_, rfl, hV1.trans hV2, rfl, hV1.trans hV2⟩
  · refine (stBill_ok h).mono ?_
    rintro r V1 ⟨rfl, hV1⟩
    refine ⟨_, _, _, rfl, hV1, (stBads_ok (h.le hV1) hq).mono ?_⟩
    rintro r V2 ⟨rfl, hV2⟩
    exact ⟨_, rfl, hV1.trans hV2, rfl, hV1.trans hV2⟩
  obtain ⟨rfl, hV1⟩ := hz
  dsimp only [unc]
  have h1 := h.le hV1
  intro _
  -- what is picked
  refine ⟨trivial, V1, View.Le.refl _, _, rfl, lv, h1.cell 8 rfl, _, rfl, fs, h1.cell 9 rfl, _, rfl, P.g.da, by rw [Addr.add_add]; exact h1.cell 5 rfl, (picked1_ok (off2_le V1 S O) (by simpa using hlvn) h1.fs (hpk.mono (h1.base.trans (off2_le _ _ _))) hxp (by omega)).mono ?_⟩
  rintro r V2 ⟨o, y, rfl, hon, hbo, hV2, hy, hx1, hx2⟩
  have h2 : StR V0 (V2.minus o) O S A C P lv fs [] [x] := h1.le hV2
  have h2' : StR V0 V2 O S A C P lv fs [] [x] := h1.le (hV2.trans (View.minus_le _ _))
  refine ⟨o, rfl, _, rfl, _, h2'.cell 1 rfl, ?_⟩
  -- Seq
  refine (CallV.besideB (stSeq_ok h2) hbo).mono ?_
  rintro r V3 ⟨U3, ⟨rfl, hU3⟩, hU3', hbo3⟩
  have h3 : StR V0 (V3.minus o) O S A C P lv fs [] [x] := (h2.le hU3).le hU3'
  have h3' : StR V0 V3 O S A C P lv fs [] [x] := h3.le (View.minus_le _ _)
  have hy3 : SlR ((V3.minus o).off2 S O) y x.b := hy.mono (off2_mono (hV2.trans (hU3.trans hU3')))
  have hpg : ∀ {W : View}, ((V3.minus o).off2 S O).Le W → repL W [.int .i64 x.r.page, .int .i64 x.r.seq, .slice y.a y.n y.c] [x] := fun hW => ⟨_, [], rfl, ⟨y, rfl, hx1, hx2, hy3.mono hW⟩, rfl⟩
  have hso : SlR V3 o [x] := hbo3.slR (hpg (off2_le _ _ _)) (View.minus_le _ _)
  refine ⟨_, rfl, inI64 (by omega) (by omega), trivial, V3, View.Le.refl _, _, rfl, _, h3'.cell 1 rfl, (refs10_ok hso (by simp)).mono ?_⟩
  rintro r V4 ⟨z, cs, rfl, hbz, hrz, hV4⟩
  have hV4' : V3.Le V4 := hV4.trans (View.minus_le _ _)
  have hbo4 := hbo3.mono hV4'
  have h4 : StR V0 (V4.minus o) O S A C P lv fs [] [x] := h3.le (minus_mono hV4' o)
  have hzo := Buf.ne hbo3 hV4
  have hzl : SlR ((V4.minus o).off2 S O) z [x.r] := h3.rowOff (minus_mono hV4' o) (hbz.minusOf hzo) (fun a ha => seeN_le (View.minus_le _ _) (newOff hV4 a ha)) (repL_rf hrz)
  refine ⟨z, rfl, hV4', ?_⟩
  -- Seal
  have sl := CallV.besideB (h4.op (K := fun r O' A' C' P' _ => r = .int .i64 0 ∧ ∃ (i : Nat) (hi : i < C.bl.length), goes C P.opn i ∧ C.bl[i].2.nxt < C.pages ∧ A' = { A with f := ⟨none, 0, 0⟩ } ∧ C' = progC C i (laidS 0 (P.seq + 1) d) hi ∧ P' = { P with seq := P.seq + 1, opn := i, T := keepT (0, P.seq + 1) [x.r] (putT (0, P.seq + 1) ((i : Int), C.bl[i].2.nxt) P.T), fr := [] })
    ((seal_ok (s := s) (l := z) (d := d) h4.pool hq (by omega) hg (by omega) ho hf (by omega) ⟨by omega, by omega⟩ (by omega) (hd.mono h4.base) hzl hm hw).mono (by
      rintro r U' ⟨rfl, i, hi, g1, g2, g3, g4, g5⟩
      exact ⟨_, _, _, _, ⟨rfl, i, hi, g1, g2, rfl, rfl, rfl⟩, g3, g4, g5, rfl, rfl, rfl⟩))) hbo4
  refine sl.mono ?_
  rintro r V5 ⟨U5, ⟨O', A', C', P', U', ⟨rfl, i, hi, g1, g2, rfl, rfl, rfl⟩, _, h5u, hW5u, _⟩, hU5, hbo5⟩
  have h5 := h5u.le hU5
  have hW5 : ((V3.minus o).off2 S O).Le ((V5.minus o).off2 S O') := (off2_mono (minus_mono hV4' o)).trans (hW5u.trans (off2_mono hU5))
  have hS5 := minus_ne h5.box
  have hb5 : V5.see S = _ := (View.minus_le _ _).see _ _ h5.box
  refine ⟨_, rfl, _, rfl, bxc hb5 9 1 (by simp [stL]), br_intro (fun h0 => by simp at h0) (fun _ => br_intro (fun h0 => by simp at h0) (fun _ => br_intro (fun _ => ?_) (fun h0 => by simp at h0)))⟩
  have e5 : V5.sets ((⟨S, 0, none⟩ : Addr).add 9) [.slice none 0 0] = V5.put S (.cells ⟨stL { A with f := ⟨none, 0, 0⟩ } P.g lv ⟨none, 0, 0⟩⟩ 60 (0, 0)) := by rw [bxe hb5]; rfl
  rw [e5]
  obtain ⟨h6, hW6⟩ := h5.set h5.lv (SlR.nil (α := Pg) ((V5.minus o).off2 S O') none 0)
  have hpl := minus_put_le2 (V := V5) (o := .cells ⟨stL { A with f := ⟨none, 0, 0⟩ } P.g lv ⟨none, 0, 0⟩⟩ 60 (0, 0)) hS5
  have h6 := h6.le hpl
  have hW6 := hW5.trans (hW6.trans (off2_mono (S := S) (O := O') hpl))
  have hbo6 : Buf (V5.put S (.cells ⟨stL { A with f := ⟨none, 0, 0⟩ } P.g lv ⟨none, 0, 0⟩⟩ 60 (0, 0))) o 58 3 [.int .i64 x.r.page, .int .i64 x.r.seq, .slice y.a y.n y.c] := hbo5.see fun a ob ha hob => by rw [View.see_put_ne _ _ (hS5 a ha)]; exact hob
  generalize V5.put S (.cells ⟨stL { A with f := ⟨none, 0, 0⟩ } P.g lv ⟨none, 0, 0⟩⟩ 60 (0, 0)) = V6 at h6 hW6 hbo6 ⊢
  have fr : ∀ {W : View} {r : Nat} {o : Obj}, W.size ≤ r → W.Le (W.put r o) := fun h => View.put_le (View.see_none_of_ge h)
  have hd6 : SlR V6 s d := hd.mono (h6.base.trans ((off2_le _ _ _).trans (View.minus_le _ _)))
  refine fun r hr => (copy8 hd6 (by have := hm.dl; omega) (K := fun _ _ => True) (fun _ _ => trivial) (D := _) (fun c V7 hc => ?_) r hr).2
  have hV7 := hc.vle
  have h7 : StR V0 (V7.minus o) O' S _ _ _ lv ⟨none, 0, 0⟩ [] [] := h6.le (minus_mono hV7 o)
  have hW7 := hW6.trans (off2_mono (S := S) (O := O') (minus_mono hV7 o))
  have hbo7 := hbo6.mono hV7
  have hc7 : SlR ((V7.minus o).off2 S O') c d := h6.rowOff (minus_mono hV7 o) (hc.buf.minusOf (Buf.ne hbo6 hc.le)) (fun a ha => seeN_le (View.minus_le _ _) (newOff hc.le a ha)) (u8s_rep d)
  intro r2 hr2
  have hfr2 : V7.see r2 = none := View.see_none_of_ge hr2
  refine apV_buf (src := [.int .i64 0, .int .i64 (P.seq + 1), .slice c.a c.n c.c]) (m := 1) rfl (hbo7.put hfr2) ⟨rfl, rowAt_new (View.see_put_same _ _ _) rfl⟩ rfl rfl (by rw [hon]; simp) (by rw [hon]; simp) fun z V8 hbz8 hzn hle8 => ?_
  have hle7 : (V7.minus o).Le (V8.minus z) := (put_minus_le hfr2).trans hle8
  have hle8' : (V7.minus o).Le V8 := hle7.trans (View.minus_le _ _)
  have h8 := h7.le hle8'
  have hz8 : SlR (V8.off2 S O') z [x, ⟨⟨0, P.seq + 1⟩, d⟩] := by
    refine h7.rowOff hle8' hbz8 (newOff hle7) ?_
    refine ⟨[.int .i64 x.r.page, .int .i64 x.r.seq, .slice y.a y.n y.c], [.int .i64 0, .int .i64 (P.seq + 1), .slice c.a c.n c.c], rfl, ⟨y, rfl, hx1, hx2, hy3.mono (hW7.trans (off2_mono hle8'))⟩, _, [], rfl, ⟨c, rfl, inI64 (by simp) (by simp), inI64 (by simp <;> omega) (by simp <;> omega), hc7.mono (off2_mono hle8')⟩, rfl⟩
  obtain ⟨h9, _⟩ := h8.set hz8 h8.fs
  have e9 : V8.sets ((⟨S, 0, none⟩ : Addr).add 8) [.slice z.a z.n z.c] = V8.put S (.cells ⟨stL { A with f := ⟨none, 0, 0⟩ } P.g z ⟨none, 0, 0⟩⟩ 60 (0, 0)) := by rw [bxe h8.box]; rfl
  refine ⟨_, rfl, bxc h8.box 8 1 (by simp [stL]), ?_⟩
  rw [e9]
  refine joinP_cut (fun q V' => q.1 = true ∧ StR V0 V' O' S { A with f := ⟨none, 0, 0⟩ } (progC C i (laidS 0 (P.seq + 1) d) hi) { P with seq := P.seq + 1, opn := i, T := keepT (0, P.seq + 1) [x.r] (putT (0, P.seq + 1) ((i : Int), C.bl[i].2.nxt) P.T), fr := [] } z ⟨none, 0, 0⟩ [x, ⟨⟨0, P.seq + 1⟩, d⟩] []) ?_ (fun q V' hq' => ?_)
  · have hq9 : Quiet (progC C i (laidS 0 (P.seq + 1) d) hi) := hq.prog hi g2 (by have := hm.ll; omega) (by omega)
    refine ⟨_, rfl, _, h9.cell 1 rfl, (stOver_ok h9 hq9 (by show 0 ≤ P.g.sp; omega)).mono ?_⟩
    rintro r V10 ⟨rfl, hV10⟩
    have h10 := h9.le hV10
    refine ⟨_, rfl, br_intro (fun _ => ⟨_, rfl, _, h10.cell 1 rfl, (stSeq_ok h10).mono ?_⟩) (fun h0 => by cases h0)⟩
    rintro r V11 ⟨rfl, hV11⟩
    have h11 := h10.le hV11
    refine ⟨_, rfl, br_intro (fun _ => (stFits_ok h11 hq9 hmC (by show 0 < (C.bl.set _ _).length; rw [List.length_set]; exact hbl) ⟨by show 0 ≤ C.reads - C.reads; omega, by show C.reads - C.reads ≤ 1; omega⟩ ⟨by show 0 ≤ C.progs + 1 - C.progs; omega, by show C.progs + 1 - C.progs ≤ 1; omega⟩ rfl (hcl i hi _ g1)).mono ?_) (fun h0 => by simp at h0)⟩
    rintro r V12 ⟨rfl, hV12⟩
    exact ⟨_, rfl, rfl, h11.le hV12⟩
  rcases q with ⟨q, ⟨⟩⟩
  obtain ⟨hq1, h10⟩ := hq'
  try simp only at hq1
  dsimp only [unc]
  exact ⟨by rw [hq1], O', z, i, hi, g1, g2, h10⟩
end
def cutAll (fr : List Rf) (T : PL) : PL := fr.foldl (fun T r => delP (r.page, r.seq) T) T
theorem cutAll_snoc {fr : List Rf} {T : PL} {r : Rf} : cutAll (fr ++ [r]) T = delP (r.page, r.seq) (cutAll fr T) := by
  unfold cutAll; rw [List.foldl_append]; rfl
section
variable {V : View} {O : Nat → Prop} {A : PAd} {C : Chp} {P : Pol}
theorem undo_ok (h : PoolR V O A C P) (hl : P.fr.length ≤ 100000) : CallV Tryz.prog 11 ⟨[.pointer (some ⟨A.p, 0, none⟩)]⟩ V fun rr V' => rr = .tuple ⟨[]⟩ ∧ PoolR V' (swapO O A.f ⟨none, 0, 0⟩) { A with f := ⟨none, 0, 0⟩ } C { P with T := cutAll P.fr P.T, fr := [] } ∧ Wr O V V' ∧ (∀ i, swapO O A.f ⟨none, 0, 0⟩ i → O i ∨ V.see i = none) := by
  refine f11_x ?_
  unfold f11_n
  obtain ⟨cs0, hb0, hr0⟩ := h.frs
  have hfn := hb0.n_eq (α := Rf) hr0
  refine br_intro (fun h0 => by cases h0) (fun _ => ⟨_, rfl, A.f, h.cell 8 rfl, ?_⟩)
  refine loop1 (k := .int .i64) (fun (jj : Int) V' => ∃ j : Nat, jj = j ∧ j ≤ P.fr.length ∧ PoolR V' O A C { P with T := cutAll (P.fr.take j) P.T } ∧ Wr O V V') (fun (jj : Int) _ => P.fr.length - jj.toNat) ⟨0, rfl, Nat.zero_le _, h, .refl⟩ ?_
  rintro (jj : Int) V5 ⟨j, rfl, hj, h5, w5⟩
  refine br_intro (fun hlt => ?_) (fun hge => ?_)
  · have hlt : j < P.fr.length := by have := of_decide_eq_true hlt; omega
    obtain ⟨cs, hb, hr⟩ := h5.frs
    have hs : SlR V5 A.f P.fr := hb.slR (α := Rf) hr (View.Le.refl _)
    obtain ⟨ad, vs, hx, ha, hc, rfl, _, _⟩ := hs.ld (x := (j : Int)) (by omega) (by omega)
    have hc : cellsAt V5 (ad.add ((j : Int).toNat * 2)) [.int .i64 P.fr[j].page, .int .i64 P.fr[j].seq] := hc
    refine ⟨by omega, by omega, ad, ha, _, _, hc, fun _ => ⟨trivial, V5, View.Le.refl _, _, rfl, _, h5.cell 7 rfl, (cut_ok h5.tab (P.fr[j].page, P.fr[j].seq)).mono ?_⟩⟩
    rintro rr V7 ⟨rfl, t7, l7⟩
    obtain ⟨h7, w7⟩ := h5.setTab l7 t7
    refine ⟨_, rfl, inI64 (by omega) (by omega), ⟨j + 1, by omega, by omega, ?_, w5.trans w7⟩, by omega⟩
    rw [List.take_add_one, List.getElem?_eq_getElem hlt]
    show PoolR V7 O A C { P with T := cutAll (P.fr.take j ++ [P.fr[j]]) P.T }
    rw [cutAll_snoc]; exact h7
  · have hge : j = P.fr.length := by have := of_decide_eq_false hge; omega
    subst hge
    rw [List.take_length] at h5
    obtain ⟨k1, k2, k3, k4⟩ := h5.setFr (s := ⟨none, 0, 0⟩) (cs := []) (fr := []) (Buf.nil _ _ _) rfl (View.minus_le _ _)
    refine ⟨_, rfl, bxc k1 8 1 (by simp [polL]), ?_⟩
    rw [bxe k1]
    refine ⟨rfl, k2, w5.trans k3, fun j hj => ?_⟩
    rcases k4 j hj with e | e
    · exact .inl e
    · refine .inr ?_
      cases hs : V.see j with
      | none => rfl
      | some o =>
        by_cases hO : O j
        · exact absurd e (h5.seen j hO)
        · have := w5.rest j o hO hs
          rw [e] at this; cases this
theorem sealNo_ok (h : PoolR V O A C P) (hl : P.fr.length ≤ 100000) (hsq : 0 ≤ P.seq ∧ P.seq ≤ 1099511627776) {s l : Sl} {d : List UInt8} {live : List Rf} (hd : SlR V s d) (hli : SlR V l live) (hw : wrongL P.T P.g.da live = true) :
    CallV Tryz.prog 15 ⟨[.pointer (some ⟨A.p, 0, none⟩), .slice s.a s.n s.c, .slice l.a l.n l.c]⟩ V fun rr V' => rr = .int .i64 1 ∧ PoolR V' (swapO O A.f ⟨none, 0, 0⟩) { A with f := ⟨none, 0, 0⟩ } C { P with T := cutAll P.fr P.T, fr := [] } ∧ Wr O V V' ∧ (∀ i, swapO O A.f ⟨none, 0, 0⟩ i → O i ∨ V.see i = none) := by
  have inner : CallV Tryz.prog 51 ⟨[.pointer (some ⟨A.p, 0, none⟩), .slice s.a s.n s.c, .slice l.a l.n l.c]⟩ V fun rr V' => rr = .int .i64 1 ∧ V.Le V' := by
    refine f51_x ?_
    unfold f51_n
    refine joinP_cut (fun z V' => z.1 = true ∧ V.Le V') ((fits_ok h hd hsq).mono ?_) (fun z V1 hz => ?_)
    · rintro rr V1 ⟨rfl, hV1⟩
      refine ⟨_, rfl, br_intro (fun _ => ⟨rfl, hV1⟩) (fun _ => (wrongLive_ok (h.le hV1) (hli.mono hV1)).mono ?_)⟩
      rintro rr V2 ⟨rfl, hV2⟩
      rw [hw]
      exact ⟨_, rfl, rfl, hV1.trans hV2⟩
    rcases z with ⟨z, ⟨⟩⟩
    obtain ⟨hz, hV1⟩ := hz
    try simp only at hz
    dsimp only [unc]
    subst hz
    exact br_intro (fun _ => ⟨rfl, hV1⟩) (fun h0 => by cases h0)
  refine f15_x ?_
  unfold f15_n
  refine br_intro (fun h0 => by cases h0) (fun _ => inner.mono ?_)
  rintro rr V1 ⟨rfl, hV1⟩
  refine ⟨_, rfl, joinP_cut (fun _ V' => PoolR V' (swapO O A.f ⟨none, 0, 0⟩) { A with f := ⟨none, 0, 0⟩ } C { P with T := cutAll P.fr P.T, fr := [] } ∧ Wr O V V' ∧ (∀ i, swapO O A.f ⟨none, 0, 0⟩ i → O i ∨ V.see i = none)) (br_intro (fun _ => (undo_ok (h.le hV1) hl).mono ?_) (fun h0 => by simp at h0)) (fun _ V' hV => ⟨rfl, hV⟩)⟩
  rintro rr V2 ⟨rfl, h2, w2, k2⟩
  refine ⟨rfl, h2, (Wr.of hV1).trans w2, fun i hi => ?_⟩
  rcases k2 i hi with e | e
  · exact .inl e
  · exact .inr (seeN_le hV1 e)
theorem readNone_ok (h : PoolR V O A C P) {r : P2} (hl : lookP r P.T = none) :
    CallV Tryz.prog 13 ⟨[.pointer (some ⟨A.p, 0, none⟩), encP r]⟩ V fun rr V' => rr = .tuple ⟨[.slice none 0 0, .int .i64 8]⟩ ∧ V' = V := by
  refine f13_x ?_
  unfold f13_n
  intro _
  refine br_intro (fun h0 => by cases h0) (fun _ => ?_)
  have ht := at_ok h.tab r
  rw [hl] at ht
  refine joinP_cut (fun z V' => z.1 = false ∧ V' = V) ⟨trivial, V, View.Le.refl _, _, rfl, _, h.cell 7 rfl, ?_, fun _ => ⟨View.Le.refl _, ?_⟩⟩ (fun z V1 hz => ?_)
  · refine ht.mono ?_
    rintro rr V1 ⟨rfl, rfl⟩
    exact ⟨_, _, _, rfl, View.Le.refl _, fun _ => ⟨View.Le.refl _, rfl, rfl⟩⟩
  · refine ht.mono ?_
    rintro rr V1 ⟨rfl, rfl⟩
    exact ⟨_, _, _, rfl, View.Le.refl _, rfl, rfl⟩
  rcases z with ⟨z1, z2, z3, ⟨⟩⟩
  obtain ⟨hz, rfl⟩ := hz
  try simp only at hz
  dsimp only [unc]
  subst hz
  intro _
  exact br_intro (fun _ => ⟨rfl, rfl⟩) (fun h0 => by cases h0)
end
end Go.Proofs.YtgkmcnafkhdlnaaGreat
/- New, where nothing is new. -/
namespace Go.Proofs.YtgkmcnafkhdlnaaGreat
open Go Go.RowKit Go.Shelf
attribute [local go_sem] Oper.semAt_some
set_option maxRecDepth 100000 in
set_option maxHeartbeats 2000000 in
theorem values1_stops (n bz c : Nat) (a : Option Addr) (w : World) (h1 : w.cell? ⟨bz, 0, none⟩ = some (.slice a 0 c)) :
    SeqStopsK Fence.wide n Tryz.prog 98 #[.pointer (some ⟨bz, 0, none⟩)] (fun x : Empty => nomatch x) (fun _ _ => True) (fun xs => xs = []) (fun _ => False) 0 w := by
  intro l J Jx W hW hJ hJx hY h0
  have lt : ∀ {b : Nat} {v : Value}, w.cell? ⟨b, 0, none⟩ = some v → b < w.heap.size := fun h => World.block_lt_of_cell? w _ h
  have g1 := (hW.cell (p := ⟨bz, 0, none⟩) (lt h1)).trans h1
  refine callsIn_of_wp Tryz.func98 rfl trivial ?_ rfl
  simp only [Tryz.ntmps98, List.size_toArray, List.length_cons, List.length_nil, Nat.reduceAdd, Nat.reduceSub, Array.replicate_succ, Array.replicate_zero, List.push_toArray, List.append_toArray, List.nil_append, List.cons_append]
  gi_wp2
  gi_loopw [7] (fun i wr => i = .int .i64 0 ∧ J [] wr)
    (fun _ _ => 0)
  case atStart => exact ⟨rfl, h0⟩
  case round =>
    obtain ⟨rfl, hJs⟩ := hrel
    gi_wp2
    go_end0
    exact ⟨⟨_, rfl⟩, .inl ⟨_, rfl, hJs⟩⟩
set_option maxRecDepth 100000 in
set_option maxHeartbeats 2000000 in
theorem appendSeq0_ok {V : View} {bz c : Nat} {a : Option Addr} (h : V.cell? ⟨bz, 0, none⟩ = some (.slice a 0 c)) :
    CallV Tryz.prog 126 ⟨[.slice none 0 0, .func (.func 98) ⟨[]⟩ ⟨[.pointer (some ⟨bz, 0, none⟩)]⟩]⟩ V fun r V' => r = .slice none 0 0 ∧ V.Le V' := by
  refine ⟨enters_of (fn := Tryz.f126) (by kernel_rfl) (by kernel_rfl) (by kernel_rfl), fun w hw => ?_⟩
  refine (callsIn_wide (n := 5)).1 (callsIn_of_wp_marks Tryz.func126 rfl trivial ?_ rfl)
  simp only [Tryz.ntmps126, List.size_toArray, List.length_cons, List.length_nil, Nat.reduceAdd, Nat.reduceSub, Array.replicate_succ, Array.replicate_zero, List.push_toArray, List.append_toArray, List.nil_append, List.cons_append]
  gi_wp2
  obtain ⟨B, hB⟩ : ∃ B, w.heap.size = B := ⟨_, rfl⟩
  have hVB : V.size ≤ w.heap.size := hw.size
  have hI1 : (V.put w.heap.size (.cells ⟨[.slice none 0 0]⟩ 44)).In (w.alloc (.cells #[.slice none 0 0] 44)) := In_alloc_put hw (.cells #[.slice none 0 0] 44)
  have hF1 : Fr V w (V.put w.heap.size (.cells ⟨[.slice none 0 0]⟩ 44)) (w.alloc (.cells #[.slice none 0 0] 44)) := Fr_alloc_put (Fr.refl V w) (.cells #[.slice none 0 0] 44)
  have hV1 : V.Le (V.put w.heap.size (.cells ⟨[.slice none 0 0]⟩ 44)) := View.put_le (View.see_none_of_ge hVB)
  have hs1 : (V.put w.heap.size (.cells ⟨[.slice none 0 0]⟩ 44)).see w.heap.size = some (.cells ⟨[.slice none 0 0]⟩ 44 (0, 0)) := View.see_put_same _ _ _
  generalize V.put w.heap.size (.cells ⟨[.slice none 0 0]⟩ 44) = V1 at hI1 hF1 hV1 hs1
  have hS1 : (w.alloc (.cells #[.slice none 0 0] 44)).heap.size = w.heap.size + 1 := World.size_alloc _ _
  generalize w.alloc (.cells #[.slice none 0 0] 44) = W1 at hI1 hF1 hS1 ⊢
  have hC1 : ∀ i o, W1.heap.size ≤ i → V1.see i = some o → o.isCells = true := fun i o hi ho => by
    have := V1.lt i o ho; have := hI1.size; omega
  rw [hB] at hs1 hS1 ⊢
  refine wpIn_rangeFunc_ownG (α := Empty) (F := Fence.wide) rfl (by omega) (gf := 98) (lb := #[.pointer (some ⟨bz, 0, none⟩)]) rfl trivial (enters_of Tryz.func98 (by kernel_rfl) rfl)
    (values1_stops 4 bz c a W1 (hI1.cell (hV1.cell h))) (fun _ _ => trivial) (fun _ _ _ _ _ _ _ _ => trivial) (Below.refl _ _) (fun x => nomatch x)
    (fun _ W => V1.In W ∧ Fr V w V1 W) (fun _ _ _ => False)
    (by
      rintro pre A A' row ⟨h3, h4⟩ hg hr
      exact ⟨In_grown h3 hC1 hg hr, Fr_grown h4 hg (fun r e => by have := (hr r e).1; omega)⟩)
    (fun _ _ _ _ _ h _ _ => h) ⟨hI1, hF1⟩ (fun x => nomatch x) (fun _ x => nomatch x) (fun _ _ x => nomatch x) ?done ?stop
  case done =>
    rintro D xs W hD rfl ⟨h3, h4⟩ hK
    have c1 : W.cell? ⟨B, 0, none⟩ = some (.slice none 0 0) := h3.cell (cell_of_see hs1 rfl)
    gi_wp2
    refine ⟨by simp, .inl ⟨_, _, rfl, run_takeDeferred hK, ?_⟩⟩
    have hDn : ∃ o : Obj, W.heap[D]? = some o ∧ o.isCells = false := ⟨_, hK, rfl⟩
    refine ⟨_, results_tmp rfl _ _ _, _, V1, rfl, In_grown h3 hC1 (grownBy_putObj' W D (.deferred none)) ?_, Fr_grown h4 (grownBy_putObj' W D (.deferred none)) ?_, rfl, hV1⟩
    · rintro r e; cases e; exact ⟨hD, hDn⟩
    · rintro r e; cases e; omega
  case stop =>
    rintro D c pre W _ h
    exact h.elim
attribute [local go_sem] Oper.semAt_some
theorem loop5 {a b c d e : K} {F : a.ty → b.ty → c.ty → d.ty → e.ty → View → (a.ty → b.ty → c.ty → d.ty → e.ty → View → Prop) → Prop} {x : a.ty} {y : b.ty} {z : c.ty} {u : d.ty} {v : e.ty} {V : View} (I : a.ty → b.ty → c.ty → d.ty → e.ty → View → Prop) (m : a.ty → b.ty → c.ty → d.ty → e.ty → View → Nat) (h0 : I x y z u v V)
    (hF : ∀ x y z u v V, I x y z u v V → F x y z u v V (fun x' y' z' u' v' V' => I x' y' z' u' v' V' ∧ m x' y' z' u' v' V' < m x y z u v V)) : loopP [a, b, c, d, e] F (x, y, z, u, v, ()) V :=
  loopP_inv (fun s V => I s.1 s.2.1 s.2.2.1 s.2.2.2.1 s.2.2.2.2.1 V) (fun s V => m s.1 s.2.1 s.2.2.1 s.2.2.2.1 s.2.2.2.2.1 V) h0 fun s V h => hF s.1 s.2.1 s.2.2.1 s.2.2.2.1 s.2.2.2.2.1 V h
theorem values_ok {V : View} {s : Sl} : CallV Tryz.prog 57 ⟨[.slice s.a s.n s.c]⟩ V fun r V' => ∃ b, r = .func (.func 98) ⟨[]⟩ ⟨[.pointer (some ⟨b, 0, none⟩)]⟩ ∧ V'.cell? ⟨b, 0, none⟩ = some (.slice s.a s.n s.c) ∧ V.Le V' := by
  refine f57_x ?_
  unfold f57_n
  exact fun b hb => ⟨b, rfl, cell_of_see (View.see_put_same _ _ _) rfl, View.put_le hb⟩
theorem collect0_ok {V : View} {bz c : Nat} {a : Option Addr} (h : V.cell? ⟨bz, 0, none⟩ = some (.slice a 0 c)) :
    CallV Tryz.prog 96 ⟨[.func (.func 98) ⟨[]⟩ ⟨[.pointer (some ⟨bz, 0, none⟩)]⟩]⟩ V fun r V' => r = .slice none 0 0 ∧ V.Le V' := by
  refine f96_x (x0 := []) (y0 := [.pointer (some ⟨bz, 0, none⟩)]) ?_
  unfold f96_n
  refine (appendSeq0_ok h).mono ?_
  rintro r V1 ⟨rfl, hV⟩
  exact ⟨⟨none, 0, 0⟩, rfl, rfl, hV⟩
theorem ins0_ok {V : View} : CallV Tryz.prog 155 ⟨[.slice none 0 0, .int .i64 0, .int .i64 0, .func (.func 58) ⟨[]⟩ ⟨[]⟩]⟩ V fun r V' => r = .tuple ⟨[]⟩ ∧ V' = V := by
  refine f155_x (a0 := ⟨none, 0, 0⟩) (x3 := []) (y3 := []) ?_
  unfold f155_n
  refine ⟨inI64 (by simp) (by simp), loop1 (k := .int .i64) (fun (i : Int) V' => i = 1 ∧ V' = V) (fun _ _ => 0) ⟨rfl, rfl⟩ ?_⟩
  rintro (i : Int) V' ⟨rfl, rfl⟩
  exact br_intro (fun h0 => by simp at h0) (fun _ => ⟨rfl, rfl⟩)
theorem pdq0_ok {V : View} {k : Int} : CallV Tryz.prog 127 ⟨[.slice none 0 0, .int .i64 0, .int .i64 0, .int .i64 k, .func (.func 58) ⟨[]⟩ ⟨[]⟩]⟩ V fun r V' => r = .tuple ⟨[]⟩ ∧ V' = V := by
  refine f127_x (a0 := ⟨none, 0, 0⟩) (x4 := []) (y4 := []) ?_
  unfold f127_n
  refine loop5 (a := .int .i64) (b := .int .i64) (c := .int .i64) (d := .bool) (e := .bool) (fun (a : Int) (b : Int) (_ : Int) (_ : Bool) (_ : Bool) V' => a = 0 ∧ b = 0 ∧ V' = V) (fun _ _ _ _ _ _ => 0) ⟨rfl, rfl, rfl⟩ ?_
  rintro (a : Int) (b : Int) (d : Int) (e : Bool) (g : Bool) V' ⟨rfl, rfl, rfl⟩
  refine joinP_cut (fun _ _ => False) ⟨inI64 (by simp) (by simp), br_intro (fun _ => ins0_ok.mono ?_) (fun h0 => by simp at h0)⟩ (fun _ _ h => h.elim)
  rintro r V1 ⟨rfl, rfl⟩
  exact ⟨rfl, rfl, rfl⟩
theorem inByte (b : UInt8) : inI .i64 (b.toNat : Int) := by
  have := b.toNat_lt
  exact inI64 (by omega) (by omega)
set_option maxRecDepth 20000 in
theorem len640_ok {V : View} : CallV Tryz.prog 154 ⟨[.int .u64 0]⟩ V fun r V' => (∃ n : Int, r = .int .i64 n) ∧ V' = V := by
  refine f154_x ?_
  unfold f154_n
  refine joinP_cut (fun z V' => z = (0, 0, ()) ∧ V' = V) (br_intro (fun h0 => by simp at h0) (fun _ => ⟨rfl, rfl⟩)) (fun z V1 hz => ?_)
  obtain ⟨rfl, rfl⟩ := hz
  dsimp only [unc]
  refine joinP_cut (fun z V' => z = (0, 0, ()) ∧ V' = V1) (br_intro (fun h0 => by simp at h0) (fun _ => ⟨rfl, rfl⟩)) (fun z V2 hz => ?_)
  obtain ⟨rfl, rfl⟩ := hz
  dsimp only [unc]
  refine joinP_cut (fun z V' => z = (0, 0, ()) ∧ V' = V2) (br_intro (fun h0 => by simp at h0) (fun _ => ⟨rfl, rfl⟩)) (fun z V3 hz => ?_)
  obtain ⟨rfl, rfl⟩ := hz
  dsimp only [unc]
  exact ⟨by decide, of_decide_eq_true (by kernel_rfl), inByte _, by rw [Int.zero_add]; exact inByte _, ⟨_, rfl⟩, rfl⟩
theorem len0_ok {V : View} : CallV Tryz.prog 125 ⟨[.int .u64 0]⟩ V fun r V' => (∃ n : Int, r = .int .i64 n) ∧ V' = V := by
  refine f125_x ?_
  unfold f125_n
  refine len640_ok.mono ?_
  rintro r V1 ⟨⟨n, rfl⟩, rfl⟩
  exact ⟨n, rfl, ⟨n, rfl⟩, rfl⟩
theorem sortFunc0_ok {V : View} : CallV Tryz.prog 97 ⟨[.slice none 0 0, .func (.func 58) ⟨[]⟩ ⟨[]⟩]⟩ V fun r V' => r = .tuple ⟨[]⟩ ∧ V' = V := by
  refine f97_x (a0 := ⟨none, 0, 0⟩) (x1 := []) (y1 := []) ?_
  unfold f97_n
  refine CallV.mono (show CallV Tryz.prog 125 ⟨[.int .u64 0]⟩ V _ from len0_ok) ?_
  rintro r V1 ⟨⟨n, rfl⟩, rfl⟩
  refine ⟨n, rfl, pdq0_ok.mono ?_⟩
  rintro r V2 ⟨rfl, rfl⟩
  exact ⟨rfl, rfl, rfl⟩
theorem sortedFunc0_ok {V : View} {bz c : Nat} {a : Option Addr} (h : V.cell? ⟨bz, 0, none⟩ = some (.slice a 0 c)) :
    CallV Tryz.prog 56 ⟨[.func (.func 98) ⟨[]⟩ ⟨[.pointer (some ⟨bz, 0, none⟩)]⟩, .func (.func 58) ⟨[]⟩ ⟨[]⟩]⟩ V fun r V' => r = .slice none 0 0 ∧ V.Le V' := by
  refine f56_x (x0 := []) (y0 := [.pointer (some ⟨bz, 0, none⟩)]) (x1 := []) (y1 := []) ?_
  unfold f56_n
  refine (collect0_ok h).mono ?_
  rintro r V1 ⟨rfl, hV⟩
  refine ⟨⟨none, 0, 0⟩, rfl, sortFunc0_ok.mono ?_⟩
  rintro r V2 ⟨rfl, rfl⟩
  exact ⟨rfl, rfl, hV⟩
set_option maxRecDepth 100000 in
set_option maxHeartbeats 2000000 in
theorem polNew0_ok {V : View} {O : Nat → Prop} {A : PAd} {C : Chp} {P : Pol} (h : PoolR V O A C P) (hf : A.f = ⟨none, 0, 0⟩) : CallV Tryz.prog 17 ⟨[.pointer (some ⟨A.p, 0, none⟩)]⟩ V fun r V' => r = .slice none 0 0 ∧ V.Le V' := by
  refine ⟨enters_of (fn := Tryz.f17) (by kernel_rfl) (by kernel_rfl) (by kernel_rfl), fun w hw => ?_⟩
  refine (callsIn_wide (n := 5)).1 (callsIn_of_wp Tryz.func17 rfl trivial ?_ rfl)
  simp only [Tryz.ntmps17, List.size_toArray, List.length_cons, List.length_nil, Nat.reduceAdd, Nat.reduceSub, Array.replicate_succ, Array.replicate_zero, List.push_toArray, List.append_toArray, List.nil_append, List.cons_append]
  have c8 : w.cell? ⟨A.p, 8, none⟩ = some (.slice none 0 0) := by
    have := hw.cell (h.cell 8 rfl)
    rw [hf, addr0_add] at this; exact this
  gi_wp2
  refine ⟨trivial, callsIn_wide.2 (((values_ok (s := ⟨none, 0, 0⟩)).at hw).mono ?_)⟩
  rintro e w' ⟨r, V1, rfl, hI1, hF1, b, rfl, hb, hV1⟩
  gi_wp2
  refine ⟨trivial, callsIn_wide.2 (((sortedFunc0_ok hb).at hI1).mono ?_)⟩
  rintro e w'' ⟨r, V2, rfl, hI2, hF2, rfl, hV2⟩
  gi_wp2
  refine bodyPost_ret (results_tmp rfl _ _ _) rfl ?_
  exact ⟨_, V2, rfl, hI2, hF1.trans hF2, rfl, hV1.trans hV2⟩
end Go.Proofs.YtgkmcnafkhdlnaaGreat
/- The state's reads. -/
namespace Go.Proofs.YtgkmcnafkhdlnaaGreat
open Go
/-- A page stands where the table says. -/
def standsP (C : Chp) (T : PL) (x : Pg) : Prop := ∃ i j : Nat, lookP (x.r.page, x.r.seq) T = some ((i : Int), (j : Int)) ∧ ∃ hi : i < C.bl.length, j < C.pages ∧ C.bl[i].2.pages[j]? = some (laidS x.r.page x.r.seq x.b) ∧ MayS x.r.page x.r.seq x.b
theorem Quiet.readC {C : Chp} (h : Quiet C) (hr : C.reads < 1000000) : Quiet (readC C) :=
  ⟨h.down, h.cut, h.fail, ⟨by show 0 ≤ C.reads + 1; have := h.reads; omega, by show C.reads + 1 ≤ _; omega⟩, h.progs, h.bl⟩
section
variable {V0 V : View} {O : Nat → Prop} {S : Nat} {A : PAd} {C : Chp} {P : Pol} {lv fs : Sl} {live : List Pg}
theorem stRead_ok {fresh : List Pg} (h : StR V0 V O S A C P lv fs live fresh) (hq : Quiet C) {x : Pg} (hx : standsP C P.T x) :
    CallV Tryz.prog 13 ⟨[.pointer (some ⟨A.p, 0, none⟩), .agg ⟨[.int .i64 x.r.page, .int .i64 x.r.seq]⟩]⟩ V fun r V' => ∃ y : Sl, r = .tuple ⟨[.slice y.a y.n y.c, .int .i64 0]⟩ ∧ SlR V' y x.b ∧ StR V0 V' O S A (readC C) P lv fs live fresh ∧ (V.off2 S O).Le (V'.off2 S O) := by
  obtain ⟨i, j, hlk, hi, hj, hb, hm⟩ := hx
  refine (h.op (K := fun r O' A' C' P' U' => ∃ y : Sl, r = .tuple ⟨[.slice y.a y.n y.c, .int .i64 0]⟩ ∧ SlR U' y x.b ∧ O' = O ∧ A' = A ∧ C' = readC C ∧ P' = P) ((polRead_ok h.pool hq (r := (x.r.page, x.r.seq)) hlk hi hj hb (parseS_laidS hm)).mono ?_)).mono ?_
  · rintro r V1 ⟨y, rfl, hy, h1, w1⟩
    exact ⟨O, A, readC C, P, ⟨y, rfl, hy, rfl, rfl, rfl, rfl⟩, h1, w1, fun i hi => .inl hi, rfl, rfl, rfl⟩
  · rintro r V1 ⟨O', A', C', P', U', ⟨y, rfl, hy, rfl, rfl, rfl, rfl⟩, hU, h1, hle, _⟩
    exact ⟨y, rfl, hy.mono (hU.trans (View.hide_le _ _)), h1, hle⟩
theorem stReads_ok (h : StR V0 V O S A C P lv ⟨none, 0, 0⟩ live []) (hq : Quiet C) (hA : A.f = ⟨none, 0, 0⟩) (hfr : P.fr = []) (hT : P.T.length = live.length) (hl : live.length ≤ 1000) (hr : C.reads + live.length ≤ 1000) (hs : ∀ x ∈ live, standsP C P.T x) :
    CallV Tryz.prog 26 ⟨[.pointer (some ⟨S, 0, none⟩)]⟩ V fun r V' => r = .bool true ∧ V0.Le V' := by
  have hlvn := h.lv.n
  refine f26_x ?_
  unfold f26_n
  refine ⟨trivial, V, View.Le.refl _, _, rfl, lv, h.cell 8 rfl, _, rfl, ⟨none, 0, 0⟩, h.cell 9 rfl, ?_⟩
  intro r hr1
  have hfr1 : V.see r = none := View.see_none_of_ge hr1
  have hp := View.put_le (o := .cells ⟨[]⟩ 58) hfr1
  obtain ⟨cy, hrow, hcy⟩ := h.lv.row
  have hcl : cy.length = lv.n * 3 := by rw [hcy.len, hlvn]; rfl
  refine ⟨hp, apV_buf (cs := []) (src := cy) (m := lv.n) rfl ⟨rfl, Nat.le_refl _, Nat.zero_le _, .inr ⟨r, [], rfl, View.see_put_same _ _ _, rfl, rfl⟩⟩ ⟨rfl, rowAt_up ((off2_le _ _ _).trans hp) hrow⟩ hcl hcy.one (by simp; omega) (by simp; omega) fun s1 V1 hb1 hn1 hle1 => ?_⟩
  have hV1 : V.Le (V1.minus s1) := View.Le.trans (put_le_hide hfr1 (View.Le.refl _)) hle1
  refine ⟨hV1.trans (View.minus_le _ _), apV_buf (src := []) (m := 0) rfl hb1 ⟨rfl, rfl⟩ rfl rfl (by rw [hn1]; simp; omega) (by rw [hn1]; simp; omega) fun s V2 hb2 hn2 hle2 => ?_⟩
  have hV2' : V.Le (V2.minus s) := hV1.trans hle2
  have hV2 : V.Le V2 := hV2'.trans (View.minus_le _ _)
  have h2 := h.le hV2
  have hs2 : SlR (V2.off2 S O) s live := h.rowOff hV2 hb2 (newOff hV2') (by rw [List.append_nil, List.nil_append]; exact hcy.mono (off2_mono hV2))
  have hsn := hs2.n
  refine loop1 (k := .int .i64) (fun (i : Int) V' => ∃ (j : Nat) (C' : Chp), i = j ∧ j ≤ live.length ∧ StR V0 V' O S A C' P lv ⟨none, 0, 0⟩ live [] ∧ Quiet C' ∧ C'.bl = C.bl ∧ C'.pages = C.pages ∧ C'.reads = C.reads + j ∧ (V2.off2 S O).Le (V'.off2 S O)) (fun (i : Int) _ => live.length - i.toNat) ⟨0, C, rfl, Nat.zero_le _, h2, hq, rfl, rfl, by simp, View.Le.refl _⟩ ?_
  rintro (i : Int) V3 ⟨j, C', rfl, hj, h3, hq3, e1, e2, e3, hle3⟩
  refine br_intro (fun hlt => ?_) (fun hge => ?_)
  · have hlt : j < live.length := by have := of_decide_eq_true hlt; omega
    obtain ⟨ad, y, hx, ha, hc, _, _, hy⟩ := (hs2.mono hle3).pg (x := (j : Int)) (by omega) (by omega)
    have hst : standsP C' P.T live[j] := by
      obtain ⟨i', j', k1, k2, k3, k4, k5⟩ := hs _ (List.getElem_mem hlt)
      refine ⟨i', j', k1, by rw [e1]; exact k2, by rw [e2]; exact k3, ?_, k5⟩
      simpa [e1] using k4
    refine ⟨by omega, by omega, ad, ha, _, _, y, cellsAt_mono (off2_le _ _ _) hc, fun _ => ⟨trivial, V3, View.Le.refl _, _, rfl, _, h3.cell 1 rfl, (stRead_ok h3 hq3 hst).mono ?_⟩⟩
    rintro r V4 ⟨z, rfl, hz, h4, hle4⟩
    have hy4 : SlR V4 y live[j].b := hy.mono (hle4.trans (off2_le _ _ _))
    refine ⟨z, 0, rfl, joinP_cut (fun q V' => q.1 = false ∧ V' = V4) (br_intro (fun h0 => by simp at h0) (fun _ => ⟨_, u8_rowP hz, _, u8_rowP hy4, by simp, rfl⟩)) (fun q V5 hq5 => ?_)⟩
    rcases q with ⟨q, ⟨⟩⟩
    obtain ⟨hq5, rfl⟩ := hq5
    try simp only at hq5
    dsimp only [unc]
    subst hq5
    refine br_intro (fun h0 => by cases h0) (fun _ => ⟨inI64 (by omega) (by omega), ⟨j + 1, readC C', by omega, by omega, h4, hq3.readC (by omega), e1, e2, by show C'.reads + 1 = _; omega, hle3.trans hle4⟩, by omega⟩)
  · refine joinP_cut (fun q V' => q.1 = true ∧ V3.Le V') ⟨trivial, V3, View.Le.refl _, _, rfl, _, h3.cell 1 rfl, _, rfl, lv, h3.cell 8 rfl, ?_⟩ (fun q V5 hq5 => ?_)
    · refine (h3.ask (K := fun r _ => ∃ y : Sl, r = .slice y.a y.n y.c ∧ y.n = P.T.length) ((polLive_ok h3.pool hfr (by omega)).mono ?_)).mono ?_
      · rintro r V4 ⟨y, rfl, hn, hV⟩
        exact ⟨⟨y, rfl, hn⟩, hV⟩
      rintro r V4 ⟨_, ⟨y, rfl, hyn⟩, _, hV4⟩
      have h4 := h3.le hV4
      refine ⟨y, rfl, hV4, V4, hV4, View.Le.refl _, br_intro (fun _ => ⟨_, rfl, _, h4.cell 1 rfl, _, rfl, ⟨none, 0, 0⟩, h4.cell 9 rfl, ?_⟩) (fun h0 => ?_)⟩
      · refine (h4.ask (K := fun r _ => r = .slice none 0 0) (polNew0_ok h4.pool hA)).mono ?_
        rintro r V5 ⟨_, rfl, _, hV5⟩
        exact ⟨⟨none, 0, 0⟩, rfl, hV5, by simp, hV4.trans hV5⟩
      · have h0 := of_decide_eq_false h0
        omega
    rcases q with ⟨q, ⟨⟩⟩
    obtain ⟨hq5, hV5⟩ := hq5
    try simp only at hq5
    dsimp only [unc]
    exact ⟨by rw [hq5], h3.base.trans ((off2_le _ _ _).trans hV5)⟩
end
theorem sT1 (p : Int) (i : Nat) : putT (p, 1) ((i : Int), 0) [] = [((p, 1), ((i : Int), 0))] := by
  simp [putT, canP, onP, lookP, swapL, delP]
theorem sT2 {p : Int} (hp : p ≠ 0) (i : Nat) : keepT (0, 2) [⟨p, 1⟩] (putT (0, 2) ((i : Int), 1) [((p, 1), ((i : Int), 0))]) = [((p, 1), ((i : Int), 0)), ((0, 2), ((i : Int), 1))] := by
  simp [putT, canP, onP, lookP, swapL, delP, keepT, hp]
theorem sT3 {p : Int} (i k n : Nat) (h : k = i → n = 2) : putT (p, 3) ((k : Int), (n : Int)) [((p, 1), ((i : Int), 0)), ((0, 2), ((i : Int), 1))] = [((p, 1), ((i : Int), 0)), ((0, 2), ((i : Int), 1)), ((p, 3), ((k : Int), (n : Int)))] := by
  have h1 : ¬ ((i : Int) = k ∧ (0 : Int) = n) := by rintro ⟨a, b⟩; have := h (by omega); omega
  have h2 : ¬ ((i : Int) = k ∧ (1 : Int) = n) := by rintro ⟨a, b⟩; have := h (by omega); omega
  simp [putT, canP, onP, lookP, swapL, delP, h1, h2]
theorem sT4 {p : Int} (i k n : Nat) : delP (p, 3) [((p, 1), ((i : Int), 0)), ((0, 2), ((i : Int), 1)), ((p, 3), ((k : Int), (n : Int)))] = [((p, 1), ((i : Int), 0)), ((0, 2), ((i : Int), 1))] := by
  simp [delP]
theorem sW1 {p da : Int} (hp : p ≠ 0) (hd : 1 ≤ da) (i : Nat) : wrongL [((p, 1), ((i : Int), 0))] da [⟨p, 1⟩] = false := by
  simp [wrongL, okAt, lookP, hp]; omega
theorem sW2 {p da : Int} {T : PL} : wrongL T da [⟨p, 1⟩, ⟨p, 3⟩] = true := by
  simp [wrongL, okAt, List.range_succ]
theorem sW3 {p da : Int} (i k n : Nat) : wrongL [((p, 1), ((i : Int), 0)), ((0, 2), ((i : Int), 1)), ((p, 3), ((k : Int), (n : Int)))] da [⟨p, 99999⟩] = true := by
  simp [wrongL, okAt, lookP]
theorem sW4 {da : Int} {T : PL} : wrongL T da [⟨0, 2⟩] = true := by
  simp [wrongL, okAt]
theorem sW5 {p da : Int} {T : PL} : wrongL T da [⟨p, 3⟩, ⟨p, 3⟩] = true := by
  simp [wrongL, okAt, List.range_succ]
theorem prog_len {C : Chp} {i : Nat} {b : List UInt8} {hi : i < C.bl.length} : (progC C i b hi).bl.length = C.bl.length := by
  show (C.bl.set i _).length = _; rw [List.length_set]
theorem prog_at {C : Chp} {i : Nat} {b : List UInt8} {hi : i < C.bl.length} : ((progC C i b hi).bl[i]'(by rw [prog_len]; exact hi)).2 = { C.bl[i].2 with nxt := C.bl[i].2.nxt + 1, pages := C.bl[i].2.pages.set C.bl[i].2.nxt.toNat b } := by
  exact congrArg Prod.snd (List.getElem_set_self _)
theorem prog_ne {C : Chp} {i k : Nat} {b : List UInt8} {hi : i < C.bl.length} (hk : k < C.bl.length) (hne : k ≠ i) : (progC C i b hi).bl[k]'(by rw [prog_len]; exact hk) = C.bl[k] := by
  exact List.getElem_set_ne (fun e => hne e.symm) _
theorem pg_same {C : Chp} {i k j : Nat} {b : List UInt8} {hi : i < C.bl.length} (hk : k < C.bl.length) (h0 : 0 ≤ C.bl[i].2.nxt) (h : k = i → (j : Int) ≠ C.bl[i].2.nxt) : ((progC C i b hi).bl[k]'(by rw [prog_len]; exact hk)).2.pages[j]? = C.bl[k].2.pages[j]? := by
  by_cases e : k = i
  · subst e
    have := h rfl
    rw [prog_at]
    show (C.bl[k].2.pages.set _ _)[j]? = _
    rw [List.getElem?_set_ne (by omega)]
  · rw [prog_ne hk e]
theorem pg_new {C : Chp} {i j : Nat} {b : List UInt8} {hi : i < C.bl.length} (h0 : C.bl[i].2.nxt = (j : Int)) (hj : j < C.bl[i].2.pages.length) : ((progC C i b hi).bl[i]'(by rw [prog_len]; exact hi)).2.pages[j]? = some b := by
  rw [prog_at]
  show (C.bl[i].2.pages.set _ _)[j]? = _
  rw [h0, Int.toNat_natCast, List.getElem?_set_self hj]
theorem newC_at {pages : Nat} {q : List (Nat × Int)} (i : Nat) (hi : i < (newC pages [] q).bl.length) : (newC pages [] q).bl[i].2.nxt = 0 ∧ (newC pages [] q).bl[i].2.pages = List.replicate pages [] := by
  obtain ⟨p', _, e⟩ := List.mem_map.1 (List.getElem_mem hi)
  rw [← e]; exact ⟨rfl, rfl⟩
theorem newC_clean {pages : Nat} {q : List (Nat × Int)} : cleanN (newC pages [] q) = q.length := by
  have hl : (newC pages [] q).bl.length = q.length := by show (q.map _).length = _; rw [List.length_map]
  unfold cleanN
  rw [cleansU_new _ (by rw [hl]; exact Nat.le_refl _), hl]; simp
/-- A block more that is not clean, at most. -/
theorem clean_le {C : Chp} {i : Nat} {b : List UInt8} (hi : i < C.bl.length) (h0 : 0 ≤ C.bl[i].2.nxt) : cleanN C ≤ cleanN (progC C i b hi) + 1 := by
  rw [cleanN_prog hi h0]; split <;> omega
theorem clean_eq {C : Chp} {i : Nat} {b : List UInt8} (hi : i < C.bl.length) (h0 : 0 < C.bl[i].2.nxt) : cleanN (progC C i b hi) = cleanN C := by
  rw [cleanN_prog hi (by omega), if_neg]
  · rfl
  · unfold cleanB
    simp; intro _; omega
theorem heavyNil_ok {V : View} (g : Cfg) {a : Option Addr} {c : Nat} : CallV Tryz.prog 9 ⟨[cfgV g, .slice a 0 c]⟩ V fun rr V' => rr = .int .i64 (if 24 < g.bl ∨ 8 < g.pg then 1 else 0) ∧ V' = V := by
  refine f9_x (a1 := ⟨a, 0, c⟩) ?_
  unfold f9_n
  intro _
  rw [bif_or]
  refine br_intro (fun h => ⟨by rw [if_pos (of_decide_eq_true h)], rfl⟩) (fun h => ?_)
  rw [if_neg (of_decide_eq_false h)]
  refine loop1 (k := .int .i64) (fun (i : Int) V' => i = 0 ∧ V' = V) (fun (i : Int) _ => 0) ⟨rfl, rfl⟩ ?_
  rintro (i : Int) V' ⟨rfl, rfl⟩
  exact br_intro (fun hlt => by simp at hlt) (fun _ => ⟨rfl, rfl⟩)
theorem begin_ok {V : View} (g : Cfg) : CallV Tryz.prog 22 ⟨[cfgV g, .slice none 0 0, .slice none 0 0]⟩ V fun r V' => (r = .pointer none ∧ V.Le V') ∨ ∃ (S : Nat) (O : Nat → Prop) (A : PAd) (q : List (Nat × Int)) (pages : Nat), r = .pointer (some ⟨S, 0, none⟩) ∧ StR V V' O S A (newC pages [] q) ⟨g, [], [], 0, -1⟩ ⟨none, 0, 0⟩ ⟨none, 0, 0⟩ [] [] ∧ fitsC g 0 = true ∧ g.bl = q.length ∧ g.pg = pages ∧ g.pg ≤ 8 ∧ A.f = ⟨none, 0, 0⟩ := by
  refine f22_x (a1 := ⟨none, 0, 0⟩) (a2 := ⟨none, 0, 0⟩) ?_
  unfold f22_n
  intro _
  refine joinP_cut (fun z V' => z.1 = !decide (g.bl ≤ 24 ∧ g.pg ≤ 8 ∧ mayC g = true) ∧ V' = V) ((heavyNil_ok g).mono ?_) (fun z V1 hz => ?_)
  · rintro r V1 ⟨rfl, rfl⟩
    refine ⟨_, rfl, br_intro (fun h => ⟨?_, rfl⟩) (fun h => (rMayPlan_ok g).mono ?_)⟩
    · rw [bif_or] at h
      have h := of_decide_eq_true h
      show true = _
      rw [decide_eq_false]; rfl
      rintro ⟨a, b, _⟩
      rw [if_neg (by omega)] at h
      simp at h
    · rintro r V2 ⟨rfl, rfl⟩
      rw [bif_or] at h
      have h := of_decide_eq_false h
      refine ⟨_, rfl, ?_, rfl⟩
      show (!mayC g) = _
      have hg : g.bl ≤ 24 ∧ g.pg ≤ 8 := by
        refine Classical.byContradiction fun hn => h (.inl ?_)
        rw [if_pos (by omega)]; decide
      cases mayC g <;> simp [hg]
  rcases z with ⟨z, ⟨⟩⟩
  obtain ⟨hz, rfl⟩ := hz
  try simp only at hz
  dsimp only [unc]
  subst hz
  refine br_intro (fun _ => .inl ⟨rfl, View.Le.refl _⟩) (fun h0 _ => ?_)
  obtain ⟨hg1, hg2, hm⟩ := of_decide_eq_true (not_f h0)
  have hma := mayC_all hm
  refine loop2 (k := .int .i64) (l := .int .i64) (fun (n : Int) (i : Int) V' => n = 0 ∧ i = 0 ∧ V' = V1) (fun _ _ _ => 0) ⟨rfl, rfl, rfl⟩ ?_
  rintro (n : Int) (i : Int) V' ⟨rfl, rfl, rfl⟩
  refine br_intro (fun hlt => by simp at hlt) (fun _ => (rFits_ok g 0).mono ?_)
  rintro r V2 ⟨rfl, rfl⟩
  refine ⟨_, rfl, br_intro (fun _ => .inl ⟨rfl, View.Le.refl _⟩) (fun h1 => ?_)⟩
  have hft := not_f h1
  have hbl : g.bl = (g.bl.toNat : Int) := by omega
  have hpg : g.pg = (g.pg.toNat : Int) := by omega
  have hnew := chipNew_ok (V := V2) (blocks := g.bl.toNat) (pages := g.pg.toNat) (s := ⟨none, 0, 0⟩) (bad := []) (SlR.nil V2 none 0) (by omega) (by omega) (by omega) (by omega)
  rw [← hbl, ← hpg] at hnew
  refine hnew.mono ?_
  rintro r V3 ⟨B, x, q, rfl, hq6, hB, hN⟩
  obtain ⟨hc1, hV3, hno1⟩ := hN.chip (by omega) hB
  have hql : q.length = g.bl.toNat := by have := congrArg List.length hq6; rw [List.length_map, uptoZ_len] at this; exact this
  have hqt := newC_quiet (pages := g.pg.toNat) q
  have hcbl : (newC g.pg.toNat [] q).bl.length = g.bl.toNat := by show (q.map _).length = _; rw [List.length_map]; exact hql
  refine ⟨_, rfl, br_intro (fun h => by cases h) (fun _ => (open_ok (g := g) (seq := 0) hc1 (fun i hi => hc1.seen hi) hqt (by omega) (by rw [hcbl]; exact hbl) hpg hft (by omega) (by omega)).mono ?_)⟩
  rintro r V4 ⟨p, t, ra, rb, rfl, h4, hV4, hno2⟩
  refine ⟨_, _, rfl, joinP_cut (fun z V' => z.1 = false ∧ V' = V4) (br_intro (fun h => by simp at h) (fun _ => ⟨rfl, rfl⟩)) (fun z V5 hz => ?_)⟩
  rcases z with ⟨z, ⟨⟩⟩
  obtain ⟨hz, rfl⟩ := hz
  try simp only at hz
  dsimp only [unc]
  subst hz
  refine br_intro (fun h => by cases h) (fun _ S hS => .inr ⟨S, fun i => ChipO (B + 2) x (newC g.pg.toNat [] q) i ∨ PolO ⟨p, B + 2, t, ra, rb, x, ⟨none, 0, 0⟩⟩ i, ⟨p, B + 2, t, ra, rb, x, ⟨none, 0, 0⟩⟩, q, g.pg.toNat, rfl, ⟨?_, ?_, View.see_put_same _ _ _, SlR.nil _ _ _, SlR.nil _ _ _⟩, hft, by rw [hql]; exact hbl, hpg, hg2, rfl⟩)
  · have hVV : V2.Le V5 := hV3.trans hV4
    have hVS : V2.see S = none := seeN_le hVV hS
    refine ⟨Nat.le_trans hVV.size (Nat.le_max_left _ _), fun i o hi => ?_, hVV.out⟩
    have h1 : i ≠ S := by rintro rfl; rw [hVS] at hi; cases hi
    have h2 : ¬ (ChipO (B + 2) x (newC g.pg.toNat [] q) i ∨ PolO ⟨p, B + 2, t, ra, rb, x, ⟨none, 0, 0⟩⟩ i) := by
      rintro (e | e)
      · have := hno1 i e
        rw [hi] at this; cases this
      · have := seeN_le hV3 (hno2 i e)
        rw [hi] at this; cases this
    unfold View.off2
    rw [sans_no h2, hide_see, if_neg h1, View.see_put_ne _ _ h1]
    exact hVV.see _ _ hi
  · exact h4.le (put_le_hide hS (View.Le.refl _))
theorem StR.rebase {V0 V0' V : View} {O : Nat → Prop} {S : Nat} {A : PAd} {C : Chp} {P : Pol} {lv fs : Sl} {live fresh : List Pg} (h : StR V0 V O S A C P lv fs live fresh) (hb : V0'.Le (V.off2 S O)) : StR V0' V O S A C P lv fs live fresh := ⟨hb, h.pool, h.box, h.lv, h.fs⟩
theorem tm60 (a : Int) : 0 ≤ Int.tmod (IntKind.wrap .u64 a) 60 ∧ Int.tmod (IntKind.wrap .u64 a) 60 < 60 := by
  have h : 0 ≤ IntKind.u64.wrap a := by unfold IntKind.wrap; exact Int.emod_nonneg _ (by decide)
  exact ⟨Int.tmod_nonneg _ h, Int.tmod_lt_of_pos _ (by decide)⟩
/-- A row of refs that a literal lays. -/
theorem litRefs {V : View} {r n : Nat} {cs : List Value} {te : TypeId} {l : List Rf} (h : V.see r = some (.cells ⟨cs⟩ te (0, 0))) (hr : repL V cs l) (hn : l.length = n) (hl : n ≤ 1000) : SlR V ⟨some ⟨r, 0, none⟩, n, n⟩ l := by
  have hc : cs.length = n * 2 := by rw [hr.len, hn]; rfl
  exact Buf.slR (x := ⟨some ⟨r, 0, none⟩, n, n⟩) (e := te) ⟨hc, Nat.le_refl _, by show n ≤ _; omega, .inr ⟨r, cs, rfl, h, hc, by rw [List.take_of_length_le]; show cs.length ≤ n * 2; omega⟩⟩ hr (View.Le.refl _)
/-- What has been, behind a Put, a Seal and a Put. -/
structure Done3 (V V' : View) (S : Nat) (g : Cfg) (page : Int) (d : List UInt8) (O : Nat → Prop) (A : PAd) (C : Chp) (i k n : Nat) (z w : Sl) : Prop where
  st : StR V V' O S A C ⟨g, [((page, 1), ((i : Int), 0)), ((0, 2), ((i : Int), 1)), ((page, 3), ((k : Int), (n : Int)))], [⟨page, 3⟩], 3, k⟩ z w [⟨⟨page, 1⟩, d⟩, ⟨⟨0, 2⟩, d⟩] [⟨⟨page, 3⟩, [110, 101, 119]⟩]
  qt : Quiet C
  rd : C.reads = 0
  s1 : standsP C [((page, 1), ((i : Int), 0)), ((0, 2), ((i : Int), 1))] ⟨⟨page, 1⟩, d⟩
  s2 : standsP C [((page, 1), ((i : Int), 0)), ((0, 2), ((i : Int), 1))] ⟨⟨0, 2⟩, d⟩
theorem mayS60 {p q : Int} {d : List UInt8} (h1 : 0 ≤ p) (h2 : p ≤ 60) (h3 : 1 ≤ q) (h4 : q ≤ 1000) (hd : d.length ≤ 60) : MayS p q d := by
  have := laidS_len p q d
  exact ⟨h1, h2, h3, by omega, by omega, by omega⟩
theorem seals_end {V V6 : View} {S i k n : Nat} {g : Cfg} {page : Int} {d : List UInt8} {O : Nat → Prop} {A : PAd} {C : Chp} {z w s x7 : Sl} {L : List Rf} (h : Done3 V V6 S g page d O A C i k n z w) (hp : page ≠ 0) (hd : SlR V s d) {V11 : View} (hle : V6.Le V11) (hL : SlR (V11.off2 S O) x7 L) (hw : wrongL [((page, 1), ((i : Int), 0)), ((0, 2), ((i : Int), 1)), ((page, 3), ((k : Int), (n : Int)))] g.da L = true) :
    CallV Tryz.prog 15 ⟨[.pointer (some ⟨A.p, 0, none⟩), .slice s.a s.n s.c, .slice x7.a x7.n x7.c]⟩ V11 fun r V' => r = .int .i64 1 ∧ ∃ O', StR V V' O' S { A with f := ⟨none, 0, 0⟩ } C ⟨g, [((page, 1), ((i : Int), 0)), ((0, 2), ((i : Int), 1))], [], 3, k⟩ z w [⟨⟨page, 1⟩, d⟩, ⟨⟨0, 2⟩, d⟩] [⟨⟨page, 3⟩, [110, 101, 119]⟩] := by
  have h11 := h.st.le hle
  refine (h11.op (K := fun r O' A' C' P' _ => r = .int .i64 1 ∧ A' = { A with f := ⟨none, 0, 0⟩ } ∧ C' = C ∧ P' = ⟨g, [((page, 1), ((i : Int), 0)), ((0, 2), ((i : Int), 1))], [], 3, k⟩) ((sealNo_ok h11.pool (by simp) ⟨by show (0 : Int) ≤ 3; omega, by show (3 : Int) ≤ _; omega⟩ (hd.mono (h11.base.trans (sans_le _ _))) (hL.mono (sans_le _ _)) hw).mono ?_)).mono ?_
  · rintro r V1 ⟨rfl, h1, w1, k1⟩
    refine ⟨_, _, _, _, ⟨rfl, rfl, rfl, ?_⟩, h1, w1, k1, rfl, rfl, rfl⟩
    show Pol.mk g (delP (page, 3) _) [] 3 k = _
    rw [sT4]
  · rintro r V1 ⟨O', A', C', P', U', ⟨rfl, rfl, rfl, rfl⟩, _, h1, _, _⟩
    exact ⟨rfl, O', h1⟩
theorem tm4 (a : Int) : 0 ≤ Int.tmod (IntKind.wrap .u64 a) 4 ∧ Int.tmod (IntKind.wrap .u64 a) 4 < 4 := by
  have h : 0 ≤ IntKind.u64.wrap a := by unfold IntKind.wrap; exact Int.emod_nonneg _ (by decide)
  exact ⟨Int.tmod_nonneg _ h, Int.tmod_lt_of_pos _ (by decide)⟩
theorem stage1 {V V1 : View} {S : Nat} {O : Nat → Prop} {A : PAd} {q : List (Nat × Int)} {pages : Nat} {g : Cfg} (h : StR V V1 O S A (newC pages [] q) ⟨g, [], [], 0, -1⟩ ⟨none, 0, 0⟩ ⟨none, 0, 0⟩ [] []) (hft : fitsC g 0 = true) (hbl : g.bl = q.length) (hpg : g.pg = pages) (hp8 : g.pg ≤ 8) {s pk : Sl} {d : List UInt8} (hd : SlR V s d) (hdl : d.length ≤ 60) {page : Int} (h1 : 1 ≤ page) (h60 : page ≤ 60) :
    CallV Tryz.prog 23 ⟨[.pointer (some ⟨S, 0, none⟩), .agg ⟨[.int .i64 0, .int .i64 0, .int .i64 0, .int .i64 page, .slice s.a s.n s.c, .slice pk.a pk.n pk.c]⟩]⟩ V1 fun r V' => r = .bool true ∧ ∃ (O' : Nat → Prop) (A' : PAd) (C : Chp) (z : Sl) (i : Nat) (hi : i < C.bl.length), StR V V' O' S A' C ⟨g, [((page, 1), ((i : Int), 0))], [⟨page, 1⟩], 1, i⟩ ⟨none, 0, 0⟩ z [] [⟨⟨page, 1⟩, d⟩] ∧ Quiet C ∧ C.bl.length = q.length ∧ C.pages = pages ∧ C.progs = 1 ∧ C.reads = 0 ∧ q.length ≤ cleanN C + 1 ∧ C.bl[i].2.nxt = 1 ∧ C.bl[i].2.pages[0]? = some (laidS page 1 d) := by
  have hm := mayC_fits hft
  have hma := mayC_all hm
  have hroom := fits_room hft hp8
  have hfl := floor_eq hm
  have hl0 : (newC pages [] q).bl.length = q.length := by show (q.map _).length = _; rw [List.length_map]
  have hc0 := newC_clean (pages := pages) (q := q)
  have hqt := newC_quiet (pages := pages) q
  have hms : MayS page (0 + 1) d := mayS60 (by omega) h60 (by omega) (by omega) hdl
  refine (stPut_ok h hqt hft hpg (by omega) (.inl rfl) (fun _ => by rw [hc0, hfl]; omega) (fun i hi b _ => ?_) (by show (0 : Int) < _; omega) ⟨by show (0 : Int) ≤ 0; omega, by show (0 : Int) ≤ _; omega⟩ (by show ((0 : Nat) : Int) < g.da + 6; omega) (by simp) (by show ((0 : Nat) : Int) < g.da + 6; omega) hd hms (by omega)).mono ?_
  · have := clean_le (b := b) hi (by rw [(newC_at i hi).1]; omega)
    rw [hc0] at this
    rw [hfl]; omega
  rintro r V2 ⟨rfl, O', f, z, i, hi, hgo, hnx, h2⟩
  obtain ⟨n0, p0⟩ := newC_at i hi
  have h2' : StR V V2 O' S { A with f := f } (progC (newC pages [] q) i (laidS page (0 + 1) d) hi) ⟨g, putT (page, 1) ((i : Int), (newC pages [] q).bl[i].2.nxt) [], [⟨page, 1⟩], 1, i⟩ ⟨none, 0, 0⟩ z [] [⟨⟨page, 1⟩, d⟩] := h2
  rw [n0, sT1] at h2'
  refine ⟨rfl, O', _, _, z, i, by rw [prog_len]; exact hi, h2', hqt.prog hi hnx hms.ll (by show (0 : Int) < _; omega), by rw [prog_len, hl0], rfl, rfl, rfl, ?_, ?_, pg_new n0 ?_⟩
  · have := clean_le (b := laidS page (0 + 1) d) hi (by rw [n0]; omega)
    rw [hc0] at this
    exact this
  · rw [prog_at]; show _ + 1 = _; rw [n0]; rfl
  · rw [p0, List.length_replicate]; omega
theorem stage2 {V0 V : View} {S : Nat} {O : Nat → Prop} {A : PAd} {C : Chp} {nb pages : Nat} {g : Cfg} {i : Nat} {hi : i < C.bl.length} {page : Int} {lv z : Sl} {d : List UInt8} (h : StR V0 V O S A C ⟨g, [((page, 1), ((i : Int), 0))], [⟨page, 1⟩], 1, i⟩ lv z [] [⟨⟨page, 1⟩, d⟩]) (hq : Quiet C) (hlen : C.bl.length = nb) (hpc : C.pages = pages) (hpr : C.progs = 1) (hrd : C.reads = 0) (hcl : nb ≤ cleanN C + 1) (hn : C.bl[i].2.nxt = 1) (hg0 : C.bl[i].2.pages[0]? = some (laidS page 1 d)) (hft : fitsC g 0 = true) (hbl : g.bl = nb) (hpg : g.pg = pages) (hp8 : g.pg ≤ 8) (hp : page ≠ 0) {s pk : Sl} (hd : SlR V0 s d) (hpk : SlR V0 pk [true]) (hdl : d.length ≤ 60) :
    CallV Tryz.prog 24 ⟨[.pointer (some ⟨S, 0, none⟩), .agg ⟨[.int .i64 0, .int .i64 0, .int .i64 0, .int .i64 0, .slice s.a s.n s.c, .slice pk.a pk.n pk.c]⟩]⟩ V fun r V' => r = .bool true ∧ ∃ (O' : Nat → Prop) (A' : PAd) (C' : Chp) (z : Sl) (hi : i < C'.bl.length), StR V0 V' O' S A' C' ⟨g, [((page, 1), ((i : Int), 0)), ((0, 2), ((i : Int), 1))], [], 2, i⟩ z ⟨none, 0, 0⟩ [⟨⟨page, 1⟩, d⟩, ⟨⟨0, 2⟩, d⟩] [] ∧ Quiet C' ∧ C'.bl.length = nb ∧ C'.pages = pages ∧ C'.progs = 2 ∧ C'.reads = 0 ∧ nb ≤ cleanN C' + 1 ∧ C'.bl[i].2.nxt = 2 ∧ C'.bl[i].2.pages[0]? = some (laidS page 1 d) ∧ C'.bl[i].2.pages[1]? = some (laidS 0 2 d) := by
  have hm := mayC_fits hft
  have hma := mayC_all hm
  have hroom := fits_room hft hp8
  have hfl := floor_eq hm
  have hms : MayS 0 (1 + 1) d := mayS60 (by omega) (by omega) (by omega) (by omega) hdl
  have hus : usable C (i : Int) := ⟨i, rfl, hi, by rw [hn]; omega⟩
  have only : ∀ k, goes C (i : Int) k → k = i := fun k hk => by
    rcases hk with ⟨_, e⟩ | ⟨e, _⟩
    · omega
    · exact absurd hus e
  refine (stSeal_ok (x := ⟨⟨page, 1⟩, d⟩) h hq hft (by show g.pg = _; omega) (by omega) (.inr ⟨i, rfl, hi⟩) (fun hnu => absurd hus hnu) (fun k hk b hgo => ?_) (by omega) ⟨by show (0 : Int) ≤ 1; omega, by show (1 : Int) ≤ _; omega⟩ (by simp) hd hpk hms hp (sW1 hp (by show (1 : Int) ≤ g.da; omega) i)).mono ?_
  · obtain rfl := only k hgo
    rw [clean_eq hk (by rw [hn]; omega), hfl]; omega
  rintro r V2 ⟨rfl, O', z', k, hk, hgo, hnx, h2⟩
  obtain rfl := only k hgo
  have h2' : StR V0 V2 O' S { A with f := ⟨none, 0, 0⟩ } (progC C k (laidS 0 (1 + 1) d) hk) ⟨g, keepT (0, 2) [⟨page, 1⟩] (putT (0, 2) ((k : Int), C.bl[k].2.nxt) [((page, 1), ((k : Int), 0))]), [], 2, k⟩ z' ⟨none, 0, 0⟩ [⟨⟨page, 1⟩, d⟩, ⟨⟨0, 2⟩, d⟩] [] := h2
  rw [hn, sT2 hp] at h2'
  have hpl := (hq.bl _ (List.getElem_mem hk)).2.2.2.2.1
  refine ⟨rfl, O', _, _, z', by rw [prog_len]; exact hk, h2', hq.prog hk hnx hms.ll (by omega), by rw [prog_len, hlen], hpc, by show C.progs + 1 = _; omega, hrd, ?_, ?_, ?_, pg_new (j := 1) hn (by omega)⟩
  · rw [clean_eq hk (by rw [hn]; omega)]; exact hcl
  · rw [prog_at]; show _ + 1 = _; rw [hn]; rfl
  · rw [pg_same hk (by omega) (fun _ => by rw [hn]; decide)]; exact hg0
theorem stage3 {V0 V : View} {S : Nat} {O : Nat → Prop} {A : PAd} {C : Chp} {nb pages : Nat} {g : Cfg} {i : Nat} {hi : i < C.bl.length} {page : Int} {z : Sl} {d : List UInt8} (h : StR V0 V O S A C ⟨g, [((page, 1), ((i : Int), 0)), ((0, 2), ((i : Int), 1))], [], 2, i⟩ z ⟨none, 0, 0⟩ [⟨⟨page, 1⟩, d⟩, ⟨⟨0, 2⟩, d⟩] []) (hq : Quiet C) (hlen : C.bl.length = nb) (hpc : C.pages = pages) (hpr : C.progs = 2) (hrd : C.reads = 0) (hcl : nb ≤ cleanN C + 1) (hn : C.bl[i].2.nxt = 2) (hg0 : C.bl[i].2.pages[0]? = some (laidS page 1 d)) (hg1 : C.bl[i].2.pages[1]? = some (laidS 0 2 d)) (hft : fitsC g 0 = true) (hbl : g.bl = nb) (hpg : g.pg = pages) (hp8 : g.pg ≤ 8) (h1 : 1 ≤ page) (h60 : page ≤ 60) {s pk : Sl} (hd : SlR V0 s ([110, 101, 119] : List UInt8)) (hdl : d.length ≤ 60) :
    CallV Tryz.prog 23 ⟨[.pointer (some ⟨S, 0, none⟩), .agg ⟨[.int .i64 0, .int .i64 0, .int .i64 0, .int .i64 page, .slice s.a s.n s.c, .slice pk.a pk.n pk.c]⟩]⟩ V fun r V' => r = .bool true ∧ ∃ (O' : Nat → Prop) (A' : PAd) (C' : Chp) (k n : Nat) (w : Sl), Done3 V0 V' S g page d O' A' C' i k n z w := by
  have hm := mayC_fits hft
  have hma := mayC_all hm
  have hroom := fits_room hft hp8
  have hfl := floor_eq hm
  have hms : MayS page (2 + 1) [110, 101, 119] := mayS60 (by omega) h60 (by omega) (by omega) (by simp)
  refine (stPut_ok h hq hft (by show g.pg = _; omega) (by omega) (.inr ⟨i, rfl, hi⟩) (fun _ => by show floorC g 0 < _; rw [hfl]; omega) (fun k hk b _ => ?_) (by omega) ⟨by show (0 : Int) ≤ 2; omega, by show (2 : Int) ≤ _; omega⟩ (by show ((2 : Nat) : Int) < g.da + 6; omega) (by simp) (by show ((2 : Nat) : Int) < g.da + 6; omega) hd hms (by omega)).mono ?_
  · have := clean_le (b := b) hk (hq.bl _ (List.getElem_mem hk)).2.2.1
    show floorC g 0 ≤ _
    rw [hfl]; omega
  rintro r V2 ⟨rfl, O', f, w, k, hk, hgo, hnx, h2⟩
  obtain ⟨n, hnn⟩ : ∃ n : Nat, C.bl[k].2.nxt = n := ⟨C.bl[k].2.nxt.toNat, by have := (hq.bl _ (List.getElem_mem hk)).2.2.1; omega⟩
  have hkn : k = i → n = 2 := by rintro rfl; rw [hn] at hnn; omega
  have h2' : StR V0 V2 O' S { A with f := f } (progC C k (laidS page (2 + 1) [110, 101, 119]) hk) ⟨g, putT (page, 3) ((k : Int), C.bl[k].2.nxt) [((page, 1), ((i : Int), 0)), ((0, 2), ((i : Int), 1))], [⟨page, 3⟩], 3, k⟩ z w [⟨⟨page, 1⟩, d⟩, ⟨⟨0, 2⟩, d⟩] [⟨⟨page, 3⟩, [110, 101, 119]⟩] := h2
  rw [hnn, sT3 i k n hkn] at h2'
  have hp1 : C.bl[i].2.pages.length = C.pages := (hq.bl _ (List.getElem_mem hi)).2.2.2.2.1
  refine ⟨rfl, O', _, _, k, n, w, h2', hq.prog hk hnx hms.ll (by omega), hrd, ⟨i, 0, by simp [lookP], by rw [prog_len]; exact hi, by show 0 < C.pages; omega, ?_, (show MayS page 1 d from mayS60 (by omega) h60 (by omega) (by omega) hdl)⟩, ⟨i, 1, ?_, by rw [prog_len]; exact hi, by show 1 < C.pages; omega, ?_, (show MayS 0 2 d from mayS60 (by omega) (by omega) (by omega) (by omega) hdl)⟩⟩
  · rw [pg_same hi (by omega) (fun e => by have := hkn e.symm; subst this; rw [hnn]; decide)]; exact hg0
  · have : ((page, (1 : Int)) : P2) ≠ (0, 2) := by intro e; cases e
    simp [lookP]
  · rw [pg_same hi (by omega) (fun e => by have := hkn e.symm; subst this; rw [hnn]; decide)]; exact hg1
end Go.Proofs.YtgkmcnafkhdlnaaGreat
/- PoolSeals: the statement's function. -/
namespace Go.Proofs.YtgkmcnafkhdlnaaGreat
open Go
set_option maxRecDepth 20000 in
theorem poolSeals_ok {V : View} {g : Cfg} {s : Sl} {d : List UInt8} {page0 how : Int} (hd : SlR V s d) : CallV Tryz.prog 6 ⟨[cfgV g, .slice s.a s.n s.c, .int .i64 page0, .int .i64 how]⟩ V fun r V' => r = .bool true ∧ V.Le V' := by
  refine f6_x ?_
  unfold f6_n
  intro _
  have hsn := hd.n
  obtain ⟨t0, t60⟩ := tm60 page0
  obtain ⟨m0, m4⟩ := tm4 how
  generalize hpg0 : Int.tmod (IntKind.wrap .u64 page0) 60 = tm at t0 t60
  obtain ⟨page, hpage⟩ : ∃ page, 1 + tm = page := ⟨_, rfl⟩
  refine (begin_ok g).mono ?_
  rintro r V1 (⟨rfl, hV1⟩ | ⟨S, O, A, q, pages, rfl, h1, hft, hbl, hpg, hp8, hAf⟩)
  · refine ⟨none, rfl, br_intro (fun _ => awake10_ok.mono ?_) (fun h => by cases h)⟩
    rintro r V2 ⟨rfl, hV2⟩
    exact ⟨_, rfl, rfl, hV1.trans hV2⟩
  refine ⟨_, rfl, br_intro (fun _ => awake10_ok.mono ?_) (fun h60 => ?_)⟩
  · rintro r V2 ⟨rfl, hV2⟩
    exact ⟨_, rfl, rfl, (h1.base.trans (off2_le _ _ _)).trans hV2⟩
  have h60 : ¬ (60 : Int) < s.n := of_decide_eq_false h60
  have hdl : d.length ≤ 60 := by omega
  refine ⟨_, rfl, _, h1.cell 1 rfl, br_intro (fun h => by cases h) (fun _ => ?_)⟩
  simp only [hpage]
  refine ⟨by decide, inI64 (by omega) (by omega), inI64 (by omega) (by omega), ?_⟩
  -- a Put, a Seal, a Put
  refine joinP_cut (fun z V' => z.1 = false ∧ ∃ (O' : Nat → Prop) (A' : PAd) (C : Chp) (i k n : Nat) (z w : Sl), Done3 V V' S g page d O' A' C i k n z w) ?_ (fun z V6 hz => ?_)
  · refine (stage1 (pk := ⟨none, 0, 0⟩) h1 hft hbl hpg hp8 hd hdl (by omega) (by omega)).mono ?_
    rintro r V2 ⟨rfl, O2, A2, C1, z2, i, hi, h2, hq1, hl1, hpc1, hpr1, hrd1, hcl1, hn1, hg1⟩
    refine ⟨_, rfl, br_intro (fun h => by cases h) (fun _ r3 hr3 => ?_)⟩
    have hf3 : V2.see r3 = none := View.see_none_of_ge hr3
    have hle3 := View.put_le (o := .cells ⟨putL [.bool false] 0 [.bool true]⟩ 4) hf3
    have h3 := h2.le hle3
    have hs3 := h2.off hle3 hf3 (View.see_put_same V2 r3 (.cells ⟨putL [.bool false] 0 [.bool true]⟩ 4 (0, 0)))
    have hpk : SlR ((V2.put r3 (.cells ⟨putL [.bool false] 0 [.bool true]⟩ 4 (0, 0))).off2 S O2) ⟨some ⟨r3, 0, none⟩, 1, 1⟩ [true] :=
      Buf.slR (α := Bool) (x := ⟨some ⟨r3, 0, none⟩, 1, 1⟩) (e := 4) ⟨rfl, Nat.le_refl _, by simp, .inr ⟨r3, [.bool true], rfl, hs3, rfl, rfl⟩⟩ (show repL _ _ _ from ⟨[.bool true], [], rfl, rfl, rfl⟩) (View.Le.refl _)
    refine (stage2 (pk := ⟨some ⟨r3, 0, none⟩, 1, 1⟩) (hi := hi) (h3.rebase (View.Le.refl _)) hq1 hl1 hpc1 hpr1 hrd1 hcl1 hn1 hg1 hft hbl hpg hp8 (by omega) (hd.mono h3.base) hpk hdl).mono ?_
    rintro r V4 ⟨rfl, O4, A4, C2, z4, hi2, h4, hq2, hl2, hpc2, hpr2, hrd2, hcl2, hn2, hg2a, hg2b⟩
    have h4 := h4.rebase (h3.base.trans h4.base)
    refine ⟨_, rfl, br_intro (fun h => by cases h) (fun _ r5 hr5 => ⟨⟨[.int .u8 110, .int .u8 101, .int .u8 119]⟩, 5, View.see_put_same _ _ _, ?_⟩)⟩
    rw [View.put_put]
    have hf5 : V4.see r5 = none := View.see_none_of_ge hr5
    have hle5 := View.put_le (o := .cells ⟨[.int .u8 110, .int .u8 101, .int .u8 119]⟩ 5 (3, 4)) hf5
    have h5 := h4.le hle5
    have hs5 := h4.off hle5 hf5 (View.see_put_same V4 r5 (.cells ⟨[.int .u8 110, .int .u8 101, .int .u8 119]⟩ 5 (3, 4)))
    have hnw : SlR ((V4.put r5 (.cells ⟨[.int .u8 110, .int .u8 101, .int .u8 119]⟩ 5 (3, 4))).off2 S O4) ⟨some ⟨r5, 0, none⟩, 3, 3⟩ ([110, 101, 119] : List UInt8) := (litRow (O := fun _ => False) (l := [110, 101, 119]) hs5 (fun h => h) (by decide)).mono (sans_le _ _)
    refine (stage3 (s := ⟨some ⟨r5, 0, none⟩, 3, 3⟩) (pk := ⟨none, 0, 0⟩) (hi := hi2) (h5.rebase (View.Le.refl _)) hq2 hl2 hpc2 hpr2 hrd2 hcl2 hn2 hg2a hg2b hft hbl hpg hp8 (by omega) (by omega) hnw hdl).mono ?_
    rintro r V6 ⟨rfl, O6, A6, C3, k, n, w, h6⟩
    have h6' : Done3 V V6 S g page d O6 A6 C3 i k n z4 w := ⟨h6.st.rebase (h5.base.trans h6.st.base), h6.qt, h6.rd, h6.s1, h6.s2⟩
    have hwn := h6'.st.fs.n
    have hzn := h6'.st.lv.n
    refine ⟨_, rfl, br_intro (fun h => by cases h) (fun _ => ⟨_, rfl, w, h6'.st.cell 9 rfl, br_intro (fun h => ?_) (fun _ => ⟨_, rfl, z4, h6'.st.cell 8 rfl, ?_, O6, A6, C3, i, k, n, z4, w, h6'⟩)⟩)⟩
    · simp at hwn
      simp [hwn] at h
    · simp at hzn
      simp [hzn]
  rcases z with ⟨z, ⟨⟩⟩
  obtain ⟨hz, O6, A6, C3, i, k, n, z6, w6, h6⟩ := hz
  try simp only at hz
  dsimp only [unc]
  subst hz
  have st := h6.st
  have hwn : w6.n = 1 := st.fs.n
  have hzn : z6.n = 2 := st.lv.n
  refine br_intro (fun h => by cases h) (fun _ => joinP_cut (fun z V' => z = (page, 1, page, 3, ()) ∧ V' = V6) ?_ (fun z V7 hz => ?_))
  · obtain ⟨ad1, y1, hx1, ha1, hc1, _⟩ := st.lv.pg (x := (0 : Int)) (by omega) (by omega)
    obtain ⟨ad2, y2, hx2, ha2, hc2, _⟩ := st.fs.pg (x := (0 : Int)) (by omega) (by omega)
    have k1 : cellsAt V6 ((ad1.add 0).add 0) [.int .i64 page, .int .i64 1] := by
      have := cellsAt_mono (off2_le V6 S O6) hc1
      rw [Addr.add_zero]
      exact (cellsAt_append (vs := [.int .i64 page, .int .i64 1]) (us := [.slice y1.a y1.n y1.c])).1 this |>.1
    have k2 : cellsAt V6 ((ad2.add 0).add 0) [.int .i64 page, .int .i64 3] := by
      have := cellsAt_mono (off2_le V6 S O6) hc2
      rw [Addr.add_zero]
      exact (cellsAt_append (vs := [.int .i64 page, .int .i64 3]) (us := [.slice y2.a y2.n y2.c])).1 this |>.1
    have L := View.Le.refl V6
    exact ⟨trivial, V6, L, _, rfl, z6, st.cell 8 rfl, by omega, by omega, ad1, ha1, page, 1, k1, _, rfl, w6, st.cell 9 rfl, by omega, by omega, ad2, ha2, page, 3, k2, fun _ => ⟨L, fun _ => ⟨L, L, rfl, rfl⟩⟩, fun _ => ⟨L, fun _ => ⟨L, L, rfl, rfl⟩⟩⟩
  obtain ⟨rfl, rfl⟩ := hz
  dsimp only [unc]
  intro _ _ r7 hr7 r8 hr8 r9 hr9 r10 hr10 r11 hr11
  have fr : ∀ {W : View} {r : Nat} {o : Obj}, W.size ≤ r → W.Le (W.put r o) := fun h => View.put_le (View.see_none_of_ge h)
  have l1 := fr (o := .cells ⟨putL (putL [.int .i64 0, .int .i64 0, .int .i64 0, .int .i64 0] 0 [.int .i64 page, .int .i64 1]) 2 [.int .i64 page, .int .i64 3]⟩ 33 (0, 0)) hr7
  have s1 := View.see_put_same V7 r7 (.cells ⟨putL (putL [.int .i64 0, .int .i64 0, .int .i64 0, .int .i64 0] 0 [.int .i64 page, .int .i64 1]) 2 [.int .i64 page, .int .i64 3]⟩ 33 (0, 0))
  have n1 := View.see_none_of_ge hr7
  generalize V7.put r7 (.cells ⟨putL (putL [.int .i64 0, .int .i64 0, .int .i64 0, .int .i64 0] 0 [.int .i64 page, .int .i64 1]) 2 [.int .i64 page, .int .i64 3]⟩ 33 (0, 0)) = W1 at l1 s1 hr8 hr9 hr10 hr11 ⊢
  have l2 := fr (o := .cells ⟨putL [.int .i64 0, .int .i64 0] 0 [.int .i64 page, .int .i64 99999]⟩ 33 (0, 0)) hr8
  have s2 := View.see_put_same W1 r8 (.cells ⟨putL [.int .i64 0, .int .i64 0] 0 [.int .i64 page, .int .i64 99999]⟩ 33 (0, 0))
  have n2 := seeN_le l1 (View.see_none_of_ge hr8)
  generalize W1.put r8 (.cells ⟨putL [.int .i64 0, .int .i64 0] 0 [.int .i64 page, .int .i64 99999]⟩ 33 (0, 0)) = W2 at l2 s2 hr9 hr10 hr11 ⊢
  have l3 := fr (o := .cells ⟨putL [.int .i64 0, .int .i64 0] 0 [.int .i64 0, .int .i64 2]⟩ 33 (0, 0)) hr9
  have s3 := View.see_put_same W2 r9 (.cells ⟨putL [.int .i64 0, .int .i64 0] 0 [.int .i64 0, .int .i64 2]⟩ 33 (0, 0))
  have n3 := seeN_le (l1.trans l2) (View.see_none_of_ge hr9)
  generalize W2.put r9 (.cells ⟨putL [.int .i64 0, .int .i64 0] 0 [.int .i64 0, .int .i64 2]⟩ 33 (0, 0)) = W3 at l3 s3 hr10 hr11 ⊢
  have l4 := fr (o := .cells ⟨putL (putL [.int .i64 0, .int .i64 0, .int .i64 0, .int .i64 0] 0 [.int .i64 page, .int .i64 3]) 2 [.int .i64 page, .int .i64 3]⟩ 33 (0, 0)) hr10
  have s4 := View.see_put_same W3 r10 (.cells ⟨putL (putL [.int .i64 0, .int .i64 0, .int .i64 0, .int .i64 0] 0 [.int .i64 page, .int .i64 3]) 2 [.int .i64 page, .int .i64 3]⟩ 33 (0, 0))
  have n4 := seeN_le ((l1.trans l2).trans l3) (View.see_none_of_ge hr10)
  generalize W3.put r10 (.cells ⟨putL (putL [.int .i64 0, .int .i64 0, .int .i64 0, .int .i64 0] 0 [.int .i64 page, .int .i64 3]) 2 [.int .i64 page, .int .i64 3]⟩ 33 (0, 0)) = W4 at l4 s4 hr11 ⊢
  have l5 := fr (o := .cells ⟨putL (putL (putL (putL [.slice none 0 0, .slice none 0 0, .slice none 0 0, .slice none 0 0] 0 [.slice (some ⟨r7, 0, none⟩) 2 2]) 1 [.slice (some ⟨r8, 0, none⟩) 1 1]) 2 [.slice (some ⟨r9, 0, none⟩) 1 1]) 3 [.slice (some ⟨r10, 0, none⟩) 2 2]⟩ 44 (0, 0)) hr11
  have s5 := View.see_put_same W4 r11 (.cells ⟨putL (putL (putL (putL [.slice none 0 0, .slice none 0 0, .slice none 0 0, .slice none 0 0] 0 [.slice (some ⟨r7, 0, none⟩) 2 2]) 1 [.slice (some ⟨r8, 0, none⟩) 1 1]) 2 [.slice (some ⟨r9, 0, none⟩) 1 1]) 3 [.slice (some ⟨r10, 0, none⟩) 2 2]⟩ 44 (0, 0))
  generalize W4.put r11 (.cells ⟨putL (putL (putL (putL [.slice none 0 0, .slice none 0 0, .slice none 0 0, .slice none 0 0] 0 [.slice (some ⟨r7, 0, none⟩) 2 2]) 1 [.slice (some ⟨r8, 0, none⟩) 1 1]) 2 [.slice (some ⟨r9, 0, none⟩) 1 1]) 3 [.slice (some ⟨r10, 0, none⟩) 2 2]⟩ 44 (0, 0)) = W5 at l5 s5 ⊢
  have lW : V7.Le W5 := (((l1.trans l2).trans l3).trans l4).trans l5
  have o1 := st.off lW n1 ((((l2.trans l3).trans l4).trans l5).see _ _ s1)
  have o2 := st.off lW n2 (((l3.trans l4).trans l5).see _ _ s2)
  have o3 := st.off lW n3 ((l4.trans l5).see _ _ s3)
  have o4 := st.off lW n4 (l5.see _ _ s4)
  have st5 := st.le lW
  have ip : inI .i64 page := inI64 (by omega) (by omega)
  have i1 : inI .i64 1 := inI64 (by omega) (by omega)
  have i2 : inI .i64 2 := inI64 (by omega) (by omega)
  have i3 : inI .i64 3 := inI64 (by omega) (by omega)
  have i0 : inI .i64 0 := inI64 (by omega) (by omega)
  have i9 : inI .i64 99999 := inI64 (by omega) (by omega)
  generalize Int.tmod (IntKind.wrap .u64 how) 4 = m at m0 m4
  refine ⟨by decide, inI64 (by omega) (by omega), m0, m4, _, rfl, ?_⟩
  have H : ∃ (x7 : Sl) (L : List Rf), W5.cell? ((⟨r11, 0, none⟩ : Addr).add (m.toNat * 1)) = some (.slice x7.a x7.n x7.c) ∧ SlR (W5.off2 S O6) x7 L ∧ wrongL [((page, 1), ((i : Int), 0)), ((0, 2), ((i : Int), 1)), ((page, 3), ((k : Int), (n : Int)))] g.da L = true := by
    obtain h | h | h | h : m = 0 ∨ m = 1 ∨ m = 2 ∨ m = 3 := by omega
    · subst h
      exact ⟨⟨some ⟨r7, 0, none⟩, 2, 2⟩, [⟨page, 1⟩, ⟨page, 3⟩], bx s5 0 rfl, litRefs o1 ⟨[.int .i64 page, .int .i64 1], [.int .i64 page, .int .i64 3], rfl, ⟨rfl, ip, i1⟩, [.int .i64 page, .int .i64 3], [], rfl, ⟨rfl, ip, i3⟩, rfl⟩ rfl (by omega), sW2⟩
    · subst h
      exact ⟨⟨some ⟨r8, 0, none⟩, 1, 1⟩, [⟨page, 99999⟩], bx s5 1 rfl, litRefs o2 ⟨[.int .i64 page, .int .i64 99999], [], rfl, ⟨rfl, ip, i9⟩, rfl⟩ rfl (by omega), sW3 i k n⟩
    · subst h
      exact ⟨⟨some ⟨r9, 0, none⟩, 1, 1⟩, [⟨0, 2⟩], bx s5 2 rfl, litRefs o3 ⟨[.int .i64 0, .int .i64 2], [], rfl, ⟨rfl, i0, i2⟩, rfl⟩ rfl (by omega), sW4⟩
    · subst h
      exact ⟨⟨some ⟨r10, 0, none⟩, 2, 2⟩, [⟨page, 3⟩, ⟨page, 3⟩], bx s5 3 rfl, litRefs o4 ⟨[.int .i64 page, .int .i64 3], [.int .i64 page, .int .i64 3], rfl, ⟨rfl, ip, i3⟩, [.int .i64 page, .int .i64 3], [], rfl, ⟨rfl, ip, i3⟩, rfl⟩ rfl (by omega), sW5⟩
  obtain ⟨x7, L, hc7, hL, hw⟩ := H
  refine ⟨x7, hc7, _, rfl, _, st5.cell 1 rfl, (seals_end h6 (by omega) hd lW hL hw).mono ?_⟩
  rintro r V8 ⟨rfl, O8, h8⟩
  have e8 : V8.sets ((⟨S, 0, none⟩ : Addr).add 9) [.slice none 0 0] = V8.put S (.cells ⟨stL { A6 with f := ⟨none, 0, 0⟩ } g z6 ⟨none, 0, 0⟩⟩ 60 (0, 0)) := by rw [bxe h8.box]; rfl
  obtain ⟨h9, _⟩ := h8.set h8.lv (SlR.nil (α := Pg) (V8.off2 S O8) none 0)
  refine ⟨_, rfl, _, rfl, bxc h8.box 9 1 (by simp [stL]), trivial, ?_⟩
  rw [e8]
  refine ⟨_, View.Le.refl _, _, rfl, _, h9.cell 1 rfl, ?_⟩
  refine (h9.ask (K := fun r _ => r = .tuple ⟨[.slice none 0 0, .int .i64 8]⟩) ((readNone_ok (r := (page, 3)) h9.pool (by simp [lookP])).mono ?_)).mono ?_
  · rintro r V9 ⟨rfl, rfl⟩; exact ⟨rfl, View.Le.refl _⟩
  rintro r V9 ⟨_, rfl, _, hV9⟩
  have h10 := h9.le hV9
  refine ⟨⟨none, 0, 0⟩, 8, rfl, joinP_cut (fun z V' => z.1 = true ∧ V.Le V') (br_intro (fun _ => (stReads_ok h10 h6.qt rfl rfl rfl (by simp) (by rw [h6.rd]; simp) ?_).mono ?_) (fun h => by simp at h)) (fun z V12 hz => ?_)⟩
  · intro x hx
    simp only [List.mem_cons, List.not_mem_nil, or_false] at hx
    rcases hx with rfl | rfl
    · exact h6.s1
    · exact h6.s2
  · rintro r V10 ⟨rfl, hV10⟩
    refine ⟨_, rfl, br_intro (fun _ => awake10_ok.mono ?_) (fun h => by cases h)⟩
    rintro r V11 ⟨rfl, hV11⟩
    exact ⟨_, rfl, rfl, hV10.trans hV11⟩
  rcases z with ⟨z, ⟨⟩⟩
  obtain ⟨hz, hV12⟩ := hz
  try simp only at hz
  dsimp only [unc]
  exact ⟨by rw [hz], hV12⟩
end Go.Proofs.YtgkmcnafkhdlnaaGreat
