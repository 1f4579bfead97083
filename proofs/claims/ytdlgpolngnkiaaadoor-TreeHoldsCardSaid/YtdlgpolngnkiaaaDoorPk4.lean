/- Texts joined: CopyOk, Dir3Ok, DrFast, RootBackOk, RootClearsOk, DirWalksOk, TrLaw, TreOk, Tr1Law, Tr2Ok, Tr3Ok, Tr4Ok, Tr5Ok, Tr2Law, Tr3Law, Tr4Law, Tr6Ok, Tr5Law, Tr7Ok, Tr8Ok, Tr6Law, Tr9Ok. -/
import Derived.Test.YtdlgpolngnkiaaaDoorPk3
import Derived.Test.YtdlgpolngnkiaaaDoorSoundC
/- Contracts of copies of trees, and of trees that are cleared. -/
namespace Go.Proofs.YtdlgpolngnkiaaaDoor
open Go
theorem cloneI_ok {s : Sl} {l : List Int} {V : View} (h : SlR V s l) (hl : l.length ≤ 1000) : CallV Tryd.prog 75 ⟨[.slice s.a s.n s.c]⟩ V fun r V' => ∃ x : Sl, r = .slice x.a x.n x.c ∧ SlR V' x l ∧ V.Le V' := by
  refine f75_x ?_
  unfold f75_n
  refine br_intro (fun hnil => ?_) (fun _ r hr => ?_)
  · have ha : s.a = none := Option.isNone_iff_eq_none.1 hnil
    have hl0 : l = [] := by
      cases l with
      | nil => rfl
      | cons b l => obtain ⟨ad, vs, h1, _⟩ := h.get 0 (by simp); rw [ha] at h1; cases h1
    subst hl0
    exact ⟨⟨none, 0, 0⟩, rfl, SlR.nil _ _ _, View.Le.refl V⟩
  · have hfr : V.see r = none := View.see_none_of_ge hr
    refine appRow (α := Int) (V0 := V) (l := []) (m := l) rfl (cs := []) ⟨rfl, Nat.le_refl _, Nat.zero_le _, .inr ⟨r, [], rfl, View.see_put_same _ _ _, rfl, rfl⟩⟩ rfl (h.mono ?_) ?_ (by simp; omega) (by simp; omega) ?_
    · exact put_le_hide hfr (View.Le.refl _)
    · exact put_le_hide hfr (View.Le.refl _)
    · intro z V' cs' hb hr' hle
      exact ⟨z, rfl, hb.slR hr' (View.minus_le _ _), hle.trans (View.minus_le _ _)⟩
theorem cloneE_ok {s : Sl} {l : List Ent} {V : View} (h : SlR V s l) (hl : l.length ≤ 1000) : CallV Tryd.prog 76 ⟨[.slice s.a s.n s.c]⟩ V fun r V' => ∃ x : Sl, r = .slice x.a x.n x.c ∧ SlR V' x l ∧ V.Le V' := by
  refine f76_x ?_
  unfold f76_n
  refine br_intro (fun hnil => ?_) (fun _ r hr => ?_)
  · have ha : s.a = none := Option.isNone_iff_eq_none.1 hnil
    have hl0 : l = [] := by
      cases l with
      | nil => rfl
      | cons b l => obtain ⟨ad, vs, h1, _⟩ := h.get 0 (by simp); rw [ha] at h1; cases h1
    subst hl0
    exact ⟨⟨none, 0, 0⟩, rfl, SlR.nil _ _ _, View.Le.refl V⟩
  · have hfr : V.see r = none := View.see_none_of_ge hr
    refine appRow (α := Ent) (V0 := V) (l := []) (m := l) rfl (cs := []) ⟨rfl, Nat.le_refl _, Nat.zero_le _, .inr ⟨r, [], rfl, View.see_put_same _ _ _, rfl, rfl⟩⟩ rfl (h.mono ?_) ?_ (by simp; omega) (by simp; omega) ?_
    · exact put_le_hide hfr (View.Le.refl _)
    · exact put_le_hide hfr (View.Le.refl _)
    · intro z V' cs' hb hr' hle
      exact ⟨z, rfl, hb.slR hr' (View.minus_le _ _), hle.trans (View.minus_le _ _)⟩
def LightN (n : Nod) : Prop := n.seqs.length ≤ 1000 ∧ n.ents.length ≤ 1000
theorem mayN_light {n : Nod} (h : mayN n = true) : LightN n := by
  have a := mayN_seqs h
  have b := mayL_len (mayN_ents h)
  exact ⟨by omega, by omega⟩
theorem copyN_ok {n : Nod} {s e : Sl} {V : View} (h : NodR V s e n) (hl : LightN n) : CallV Tryd.prog 62 ⟨[nodV n s e]⟩ V fun r V' => ∃ s' e' : Sl, r = nodV n s' e' ∧ NodR V' s' e' n ∧ V.Le V' := by
  refine f62_x ?_
  unfold f62_n
  refine fun _ _ => ⟨trivial, V, View.Le.refl _, (cloneI_ok h.seqs hl.1).mono ?_⟩
  rintro r V1 ⟨x, rfl, hx, hV1⟩
  refine ⟨x, rfl, hV1, (cloneE_ok (h.ents.mono hV1) hl.2).mono ?_⟩
  rintro r V2 ⟨y, rfl, hy, hV2⟩
  exact ⟨y, rfl, x, y, rfl, ⟨h.kind, h.links, h.size, hx.mono hV2, hy⟩, hV1.trans hV2⟩
/-- A tree of one's own: the row of its nodes is one's own. -/
def OwnT (V0 V : View) (x : Sl) (t : Tre) : Prop := ∃ cs, Buf V x 37 5 cs ∧ repL (V.minus x) cs t ∧ V0.Le (V.minus x)
theorem OwnT.slR {V0 V : View} {x : Sl} {t : Tre} (h : OwnT V0 V x t) : SlR V x t := by
  obtain ⟨cs, hb, hr, _⟩ := h
  exact hb.slR hr (View.minus_le _ _)
theorem OwnT.le {V0 V : View} {x : Sl} {t : Tre} (h : OwnT V0 V x t) : V0.Le V := by
  obtain ⟨cs, hb, hr, hle⟩ := h
  exact hle.trans (View.minus_le _ _)
theorem OwnT.mono {V0 V V' : View} {x : Sl} {t : Tre} (h : OwnT V0 V x t) (hV : V.Le V') : OwnT V0 V' x t := by
  obtain ⟨cs, hb, hr, hle⟩ := h
  have := minus_mono hV x
  exact ⟨cs, hb.mono hV, hr.mono this, hle.trans this⟩
theorem OwnT.from {U V0 V : View} {x : Sl} {t : Tre} (h : OwnT V0 V x t) (hV : U.Le V0) : OwnT U V x t := by
  obtain ⟨cs, hb, hr, hle⟩ := h
  exact ⟨cs, hb, hr, hV.trans hle⟩
/-- A node is set. -/
theorem OwnT.set {V0 V : View} {x : Sl} {t : Tre} (h : OwnT V0 V x t) {i : Nat} (hi : i < t.length) {n : Nod} {vs : List Value} (hn : ∀ cs, Buf V x 37 5 cs → Rep.rep (V.minus x) vs n) :
    ∃ ad, x.a = some ad ∧ canSet V (ad.add (i * 5)) 5 ∧ OwnT V0 (V.sets (ad.add (i * 5)) vs) x (t.set i n) := by
  obtain ⟨cs, hb, hr, hle⟩ := h
  have hd := hn cs hb
  have h5 : vs.length = 5 := Rep.len hd
  obtain ⟨ad, ha, h1, h2, h3, h4⟩ := hb.setE (α := Nod) hr hd hi
  rw [h5] at h1
  exact ⟨ad, ha, h1, _, h2, h3, hle.trans h4⟩
/-- A cell of a node is set. -/
theorem OwnT.setC {V0 V : View} {x : Sl} {t : Tre} (h : OwnT V0 V x t) {i : Nat} (hi : i < t.length) :
    ∃ ad sq en, x.a = some ad ∧ cellsAt V (ad.add (i * 5)) [.int .i64 (t.getD i default).kind, .int .i64 (t.getD i default).links, .int .i64 (t.getD i default).size, .slice sq.a sq.n sq.c, .slice en.a en.n en.c] ∧ NodR (V.minus x) sq en (t.getD i default) ∧
      (∀ k n, inI .i64 k → n = { t.getD i default with links := k } → canSet V ((ad.add (i * 5)).add 1) 1 ∧ OwnT V0 (V.sets ((ad.add (i * 5)).add 1) [.int .i64 k]) x (t.set i n)) ∧
      (∀ k n, inI .i64 k → n = { t.getD i default with size := k } → canSet V ((ad.add (i * 5)).add 2) 1 ∧ OwnT V0 (V.sets ((ad.add (i * 5)).add 2) [.int .i64 k]) x (t.set i n)) ∧
      (∀ q l n, SlR (V.minus x) q l → n = { t.getD i default with seqs := l } → canSet V ((ad.add (i * 5)).add 3) 1 ∧ OwnT V0 (V.sets ((ad.add (i * 5)).add 3) [.slice q.a q.n q.c]) x (t.set i n)) ∧
      (∀ q l n, SlR (V.minus x) q l → n = { t.getD i default with ents := l } → canSet V ((ad.add (i * 5)).add 4) 1 ∧ OwnT V0 (V.sets ((ad.add (i * 5)).add 4) [.slice q.a q.n q.c]) x (t.set i n)) := by
  obtain ⟨cs, hb, hr, hle⟩ := h
  obtain ⟨ad, vs, ha, hc, ⟨sq, en, rfl, h1, h2, h3, h4, h5⟩, hset⟩ := hb.setC (α := Nod) hr hi
  have e0 : t.getD i default = t[i] := getD_at hi
  rw [e0]
  refine ⟨ad, sq, en, ha, hc, ⟨h1, h2, h3, h4, h5⟩, fun k n hk hn => ?_, fun k n hk hn => ?_, fun q l n hq hn => ?_, fun q l n hq hn => ?_⟩
  · obtain ⟨a, b, c, d⟩ := hset 1 (.int .i64 k) n (by decide) ⟨sq, en, by rw [hn]; rfl, by rw [hn]; exact h1, by rw [hn]; exact hk, by rw [hn]; exact h3, by rw [hn]; exact h4, by rw [hn]; exact h5⟩
    exact ⟨a, _, b, c, hle.trans d⟩
  · obtain ⟨a, b, c, d⟩ := hset 2 (.int .i64 k) n (by decide) ⟨sq, en, by rw [hn]; rfl, by rw [hn]; exact h1, by rw [hn]; exact h2, by rw [hn]; exact hk, by rw [hn]; exact h4, by rw [hn]; exact h5⟩
    exact ⟨a, _, b, c, hle.trans d⟩
  · obtain ⟨a, b, c, d⟩ := hset 3 (.slice q.a q.n q.c) n (by decide) ⟨q, en, by rw [hn]; rfl, by rw [hn]; exact h1, by rw [hn]; exact h2, by rw [hn]; exact h3, by rw [hn]; exact hq, by rw [hn]; exact h5⟩
    exact ⟨a, _, b, c, hle.trans d⟩
  · obtain ⟨a, b, c, d⟩ := hset 4 (.slice q.a q.n q.c) n (by decide) ⟨sq, q, by rw [hn]; rfl, by rw [hn]; exact h1, by rw [hn]; exact h2, by rw [hn]; exact h3, by rw [hn]; exact h4, by rw [hn]; exact hq⟩
    exact ⟨a, _, b, c, hle.trans d⟩
theorem copyT_ok {s : Sl} {t : Tre} {V : View} (h : SlR V s t) (hl : t.length ≤ 1000 ∧ ∀ n ∈ t, LightN n) : CallV Tryd.prog 37 ⟨[treV s]⟩ V fun r V' => ∃ x : Sl, r = treV x ∧ OwnT V V' x t := by
  refine f37_x ?_
  unfold f37_n
  have hn := h.n
  refine fun _ _ _ => loop2 (k := .int .i64) (l := .sl) (fun (j : Int) (x : Sl) V' => ∃ i : Nat, j = i ∧ i ≤ t.length ∧ OwnT V V' x (t.take i)) (fun (j : Int) _ _ => t.length - j.toNat) ⟨0, rfl, by omega, [], Buf.nil _ _ _, rfl, View.Le.refl _⟩ ?_
  rintro (j : Int) (x : Sl) V1 ⟨i, rfl, hi, hO⟩
  have hV1 := hO.le
  refine br_intro (fun hlt => ?_) (fun hge => ?_)
  · have hlt : i < t.length := by have := of_decide_eq_true hlt; omega
    obtain ⟨cs, hb, hr, hle⟩ := hO
    obtain ⟨ad, sq, en, ha, hc, hN⟩ := (h.mono hle).nodN hlt
    have hmem : t.getD i default ∈ t := by rw [getD_at hlt]; exact List.getElem_mem _
    have hx := hb.n_eq (α := Nod) hr
    rw [List.length_take] at hx
    have hl1 := hl.1
    refine ⟨by omega, by omega, ad, ha, _, _, _, sq, en, cellsAt_mono (View.minus_le _ _) hc, fun _ => ⟨trivial, V, hV1, ((copyN_ok hN (hl.2 _ hmem)).besideB hb).mono ?_⟩⟩
    rintro r V2 ⟨U, ⟨s', e', rfl, hN', hU⟩, hU2, hb2⟩
    have hle2 := hle.trans (hU.trans hU2)
    have hV2 := hle2.trans (View.minus_le _ _)
    refine ⟨_, _, _, s', e', rfl, hV2, fun r hr1 => ⟨hV2.trans (View.put_le (View.see_none_of_ge hr1)), ?_⟩⟩
    refine app0 (α := Nod) rfl hb2 (hr.mono (hU.trans hU2)) (hN'.mono hU2).rep hle2 hr1 rfl (by show (x.n + 1) * 72 ≤ _; omega) (by show x.n + 1 ≤ _; omega) ?_
    intro z V3 cs3 hb3 hr3 hle3
    refine ⟨inI64 (by omega) (by omega), ⟨i + 1, by omega, by omega, cs3, hb3, ?_, hle3⟩, by omega⟩
    rw [List.take_add_one, List.getElem?_eq_getElem hlt]
    rw [getD_at hlt] at hr3; exact hr3
  · have hge : i = t.length := by have := of_decide_eq_false hge; omega
    subst hge
    rw [List.take_length] at hO
    exact ⟨x, rfl, hO⟩
/-- A file without names is none. -/
def clearN (n : Nod) : Nod := if n.kind = 1 ∧ n.links = 0 then Nod.zero else n
def clearU (t : Tre) : Tre := t.map clearN
noncomputable def clearT (t : Tre) : Tre := if mayT t then clearU t else []
theorem mayT_light {t : Tre} (h : mayT t = true) : t.length = 12 ∧ ∀ n ∈ t, LightN n := by
  unfold mayT at h
  simp only [Bool.and_eq_true, decide_eq_true_eq, List.all_eq_true] at h
  exact ⟨h.1.1.1.1, fun n hn => mayN_light (h.1.1.1.2 n hn)⟩
theorem clear_step (t : Tre) (i : Nat) (hi : i < t.length) : clearU (t.take (i + 1)) ++ t.drop (i + 1) = (clearU (t.take i) ++ t.drop i).set i (clearN (t.getD i default)) := by
  have h1 : (clearU (t.take i)).length = i := by simp [clearU]; omega
  rw [List.set_append_right _ _ (by omega), h1, Nat.sub_self, ← List.getElem_cons_drop (h := hi), List.set_cons_zero, List.take_add_one, List.getElem?_eq_getElem hi, getD_at hi]
  have e : clearU (t.take i ++ (some t[i]).toList) = clearU (t.take i) ++ [clearN t[i]] := List.map_append
  rw [e, List.append_assoc]; rfl
theorem clear_at (t : Tre) (i : Nat) (hi : i < t.length) : (clearU (t.take i) ++ t.drop i).getD i default = t.getD i default := by
  have h1 : (clearU (t.take i)).length = i := by simp [clearU]; omega
  rw [List.getD_eq_getElem?_getD, List.getElem?_append_right (by omega), h1, Nat.sub_self, List.getElem?_drop, Nat.add_zero, ← List.getD_eq_getElem?_getD]
theorem zero_rep {W : View} : Rep.rep W [.int .i64 0, .int .i64 0, .int .i64 0, .slice none 0 0, .slice none 0 0] Nod.zero := ⟨⟨none, 0, 0⟩, ⟨none, 0, 0⟩, rfl, zero64, zero64, zero64, SlR.nil _ _ _, SlR.nil _ _ _⟩
theorem zeroI : inI .i64 0 := zero64
theorem clear_loop {V0 V : View} {x : Sl} {t : Tre} (hO : OwnT V0 V x t) (hl : t.length ≤ 1000) {Q : Value → View → Prop} (hQ : ∀ V', OwnT V0 V' x (clearU t) → Q (treV x) V') :
    ∀ F : CurF (CurP [K.int .i64] → Prop) [K.int .i64], (∀ (j : Int) V J, F j V J = br (decide (j < (x.n : Int))) (0 ≤ j ∧ j < (x.n : Int) ∧ ∃ ad, x.a = some ad ∧ ∃ x_2 x_3 x_4 : Int, ∃ x_5 x_6 : Sl, cellsAt V (ad.add (j.toNat * 5)) [.int .i64 x_2, .int .i64 x_3, .int .i64 x_4, .slice x_5.a x_5.n x_5.c, .slice x_6.a x_6.n x_6.c] ∧ ∀ _b : Nat, joinP [] (fun J => br (bif decide (x_2 = 1) then decide (x_3 = 0) else false) (0 ≤ j ∧ j < (x.n : Int) ∧ ∃ ad, x.a = some ad ∧ canSet V (ad.add (j.toNat * 5)) 5 ∧ J (V.sets (ad.add (j.toNat * 5)) [.int .i64 0, .int .i64 0, .int .i64 0, .slice none 0 0, .slice none 0 0])) (J V)) fun V => inI .i64 (j + 1) ∧ J (j + 1) V) (Q (treV x) V)) →
    loopP [K.int .i64] F (0, ()) V := by
  intro F hF
  refine loop1 (k := .int .i64) (fun (j : Int) V' => ∃ i : Nat, j = i ∧ i ≤ t.length ∧ OwnT V0 V' x (clearU (t.take i) ++ t.drop i)) (fun (j : Int) _ => t.length - j.toNat) ⟨0, rfl, by omega, by simpa [clearU] using hO⟩ ?_
  rintro (j : Int) V1 ⟨i, rfl, hi, hO1⟩
  rw [hF]
  have hlen : (clearU (t.take i) ++ t.drop i).length = t.length := by simp [clearU]; omega
  have hxn := hO1.slR.n
  refine br_intro (fun hlt => ?_) (fun hge => ?_)
  · have hlt : i < t.length := by have := of_decide_eq_true hlt; omega
    obtain ⟨ad, sq, en, ha, hc, hN⟩ := hO1.slR.nodN (i := i) (by omega)
    rw [clear_at t i hlt] at hc hN
    refine ⟨by omega, by omega, ad, ha, _, _, _, sq, en, hc, fun _ => ?_⟩
    refine joinP_cut (fun _ V' => OwnT V0 V' x (clearU (t.take (i + 1)) ++ t.drop (i + 1))) (br_intro (fun hb => ?_) (fun hb => ?_)) ?_
    · have hb : (t.getD i default).kind = 1 ∧ (t.getD i default).links = 0 := by
        cases h1 : decide ((t.getD i default).kind = 1) with
        | true => rw [h1] at hb; exact ⟨of_decide_eq_true h1, of_decide_eq_true hb⟩
        | false => rw [h1] at hb; cases hb
      obtain ⟨ad2, ha2, h1, h2⟩ := hO1.set (i := i) (n := Nod.zero) (by omega) (fun _ _ => zero_rep)
      refine ⟨by omega, by omega, ad2, ha2, h1, ?_⟩
      rw [clear_step t i hlt, show clearN (t.getD i default) = Nod.zero by unfold clearN; rw [if_pos hb]]
      exact h2
    · have hb : ¬ ((t.getD i default).kind = 1 ∧ (t.getD i default).links = 0) := by
        rintro ⟨h1, h2⟩
        rw [decide_eq_true h1, decide_eq_true h2] at hb; cases hb
      show OwnT V0 V1 x _
      rw [clear_step t i hlt, show clearN (t.getD i default) = t.getD i default by unfold clearN; rw [if_neg hb]]
      have : (clearU (t.take i) ++ t.drop i).set i (t.getD i default) = clearU (t.take i) ++ t.drop i := by
        rw [← clear_at t i hlt, getD_at (by omega)]
        exact List.set_getElem_self _
      rw [this]; exact hO1
    · rintro ⟨⟩ V2 hO2
      exact ⟨inI64 (by omega) (by omega), ⟨i + 1, by omega, by omega, hO2⟩, by omega⟩
  · have hge : i = t.length := by have := of_decide_eq_false hge; omega
    subst hge
    rw [List.take_length, List.drop_length, List.append_nil] at hO1
    exact hQ V1 hO1
end Go.Proofs.YtdlgpolngnkiaaaDoor

/- DirCounts. -/
namespace Go.Proofs.YtdlgpolngnkiaaaDoor
open Go
/-- What a node adds to the links. -/
def linkN (t : Tre) (i : Nat) : Int := if kindT t i = 1 then (t.getD i default).links else if kindT t i = 2 ∧ 0 < i then 1 else 0
def linkU (t : Tre) : Nat → Int
  | 0 => 0
  | k + 1 => linkU t k + linkN t k
def sumU (f : Nat → Nat) : Nat → Nat
  | 0 => 0
  | k + 1 => sumU f k + f k
theorem sumU_add (f g : Nat → Nat) : ∀ k, sumU (fun i => f i + g i) k = sumU f k + sumU g k
  | 0 => rfl
  | k + 1 => by simp only [sumU, sumU_add f g k]; omega
theorem sumU_one (q : Nat) : ∀ k, sumU (fun i => if q = i then 1 else 0) k = if q < k then 1 else 0
  | 0 => rfl
  | k + 1 => by
    simp only [sumU, sumU_one q k]
    split <;> split <;> split <;> omega
theorem sumU_zero : ∀ k, sumU (fun _ => 0) k = 0
  | 0 => rfl
  | k + 1 => by simp only [sumU, sumU_zero k]
/-- Each entry names one node. -/
theorem count_sum : ∀ {l : List Ent}, (∀ e ∈ l, 0 ≤ e.node ∧ e.node < 12) → sumU (fun i => l.countP fun e => decide (e.node = (i : Int))) 12 = l.length
  | [], _ => sumU_zero 12
  | e :: l, h => by
    have ih := count_sum (l := l) fun x hx => h x (by simp [hx])
    have he := h e (by simp)
    have h1 : (fun i : Nat => (e :: l).countP fun e => decide (e.node = (i : Int))) = fun i : Nat => (l.countP fun e => decide (e.node = (i : Int))) + (if e.node.toNat = i then 1 else 0) := by
      funext i
      rw [List.countP_cons]
      congr 1
      by_cases hi : e.node.toNat = i
      · rw [if_pos hi, if_pos (decide_eq_true (show e.node = (i : Int) by omega))]
      · rw [if_neg hi, if_neg]
        intro hc
        have := of_decide_eq_true hc; omega
    rw [h1, sumU_add, ih, sumU_one, if_pos (by omega)]; rfl
theorem linkN_named {t : Tre} (h : MayF t) {i : Nat} (hi : i < 12) : linkN t i = (namedT t (i : Int) : Nat) := by
  unfold linkN
  have hz : namedT t ((0 : Nat) : Int) = 0 := by
    rw [List.countP_eq_zero]
    intro e he hd
    obtain ⟨n, hn, hen⟩ := List.mem_flatMap.1 he
    obtain ⟨j, hj, rfl⟩ := List.getElem_of_mem hn
    have hx : e ∈ entsT t j := by unfold entsT; rw [getD_at hj]; exact hen
    have := h.zero hx
    have := of_decide_eq_true hd
    omega
  rcases kind_of (h.at hi) with hk | hk | hk
  · have h0 := h.none i hi hk
    rw [if_neg (show ¬ kindT t i = 1 by unfold kindT; omega), if_neg (show ¬ (kindT t i = 2 ∧ 0 < i) by unfold kindT; omega), h0]; rfl
  · rw [if_pos (show kindT t i = 1 from hk)]
    exact h.file i hi hk
  · rw [if_neg (show ¬ kindT t i = 1 by unfold kindT; omega)]
    by_cases h0 : 0 < i
    · have := (h.dir i hi hk).2
      rw [if_pos ⟨hk, h0⟩]
      omega
    · have : i = 0 := by omega
      subst this
      rw [if_neg (by omega), hz]; rfl
theorem linkU_sum {t : Tre} (h : MayF t) : ∀ k, k ≤ 12 → linkU t k = (sumU (fun i => namedT t (i : Int)) k : Nat)
  | 0, _ => rfl
  | k + 1, hk => by
    simp only [linkU, sumU, linkU_sum h k (by omega), linkN_named h (show k < 12 by omega)]
    omega
theorem linkU_all {t : Tre} (h : MayF t) : linkU t 12 = ((allE t).length : Nat) := by
  rw [linkU_sum h 12 (by omega)]
  congr 1
  refine count_sum fun e he => ?_
  obtain ⟨n, hn, hen⟩ := List.mem_flatMap.1 he
  obtain ⟨j, hj, rfl⟩ := List.getElem_of_mem hn
  have hx : e ∈ entsT t j := by unfold entsT; rw [getD_at hj]; exact hen
  have := h.ent hx
  omega
theorem linkU_le {t : Tre} (h : MayF t) : ∀ k, k ≤ 12 → 0 ≤ linkU t k ∧ linkU t k ≤ 120 * k
  | 0, _ => by simp [linkU]
  | k + 1, hk => by
    have ih := linkU_le h k (by omega)
    have hm := h.at (show k < 12 by omega)
    have : 0 ≤ linkN t k ∧ linkN t k ≤ 120 := by
      unfold linkN
      split
      · rename_i hk1
        have hk1 : (t.getD k default).kind = 1 := hk1
        unfold mayN at hm
        rw [if_neg (by omega), if_pos hk1] at hm
        unfold fileB at hm
        simp only [Bool.and_eq_true] at hm
        have := hm.1.1.1.1
        unfold within at this
        simpa using this
      · split <;> omega
    simp only [linkU]
    omega
/-! ### a name less -/
theorem ents_len_set {t : Tre} {k : Nat} {x : Int} (hk : k < t.length) {n : Nod} {e : Ent} (he : (t.getD k default).ents = n.ents ++ [e]) (hx : e.node = x) : namedT (t.set k n) x + 1 = namedT t x := by
  induction t generalizing k with
  | nil => simp at hk
  | cons m t ih =>
    unfold namedT at ih ⊢
    cases k with
    | zero =>
      have he : m.ents = n.ents ++ [e] := by simpa using he
      rw [List.set_cons_zero, allE_cons, allE_cons, he]
      simp only [List.countP_append, List.countP_cons, List.countP_nil, hx, decide_true, if_true]
      omega
    | succ k =>
      rw [List.set_cons_succ, allE_cons, allE_cons, List.countP_append, List.countP_append]
      have := ih (k := k) (by simpa using hk) (by simpa using he)
      omega
theorem less_no {t : Tre} (hM : mayT t = true) {k : Nat} (hk : k < 12) (hne : (entsT t k) ≠ []) {n : Nod} (hn : n = { t.getD k default with ents := (entsT t k).dropLast }) : mayT (t.set k n) = false := by
  have hF := mayF hM
  have h12 := hF.len
  cases hu : mayT (t.set k n) with
  | false => rfl
  | true =>
    exfalso
    have hU := mayF hu
    have hsplit : (t.getD k default).ents = n.ents ++ [(entsT t k).getLast hne] := by
      rw [hn]; exact (List.dropLast_concat_getLast hne).symm
    have hlast : (entsT t k).getLast hne ∈ entsT t k := List.getLast_mem hne
    generalize (entsT t k).getLast hne = e at *
    have hq := hF.ent hlast
    have h1 := ents_len_set (t := t) (k := k) (by omega) hsplit rfl
    have h2 : ∀ (f : Nod → Int), (∀ l, f { t.getD k default with ents := l } = f (t.getD k default)) → ∀ j, f ((t.set k n).getD j default) = f (t.getD j default) := by
      intro f hf j
      rw [List.getD_eq_getElem?_getD, List.getD_eq_getElem?_getD, List.getElem?_set]
      split
      · rename_i hj
        subst hj
        rw [if_pos (by omega), hn]
        have := hf (entsT t k).dropLast
        rw [List.getD_eq_getElem?_getD] at this
        simpa [List.getD_eq_getElem?_getD] using this
      · rfl
    have hkind := h2 Nod.kind (fun _ => rfl) e.node.toNat
    have hlinks := h2 Nod.links (fun _ => rfl) e.node.toNat
    have hcast : ((e.node.toNat : Nat) : Int) = e.node := by omega
    have hone : 1 ≤ namedT t e.node := named_one hlast rfl
    rcases kind_of (hF.at (show e.node.toNat < 12 by omega)) with hk0 | hk1 | hk2
    · exact hq.2.2.2.2.2 hk0
    · have a := hF.file e.node.toNat (by omega) hk1
      have b := hU.file e.node.toNat (by omega) (by unfold kindT; rw [hkind]; exact hk1)
      rw [hcast] at a b
      rw [hlinks] at b
      omega
    · have a := (hF.dir e.node.toNat (by omega) hk2).2
      have b := (hU.dir e.node.toNat (by omega) (by unfold kindT; rw [hkind]; exact hk2)).2
      rw [hcast] at a b
      omega
theorem mayT_light' {t : Tre} (h : mayT t = true) : t.length ≤ 1000 ∧ ∀ n ∈ t, LightN n := by
  have := mayT_light h
  exact ⟨by omega, this.2⟩
end Go.Proofs.YtdlgpolngnkiaaaDoor

/- May operations be taken in an order: the same check over bits of a number. -/
namespace Go.Proofs.YtdlgpolngnkiaaaDoor
open Go
def rdyM (ops : Array Oper) (m : Nat) : List Nat := (List.range ops.size).filter fun i => !Nat.testBit m i && ((ops[i]?).map (fun o => o.after.all fun e => !Region.binds .any e || Nat.testBit m e.on)).getD false
def freeM (ops : Array Oper) (m i : Nat) : Bool := match ops[i]? with
  | none => false
  | some oi => (List.range ops.size).all fun j => j == i || Nat.testBit m j || match ops[j]? with
      | some oj => oj.after.any (fun e => Region.binds .any e && e.on == i) || oi.apart ops oj
      | none => true
def drFromM (P : Program) (ops : Array Oper) : DT → Bool → Nat → Bool → Bool
  | .done, true, m, _ => (rdyM ops m).isEmpty
  | .done, false, _, _ => false
  | .no, top, _, _ => !top
  | .fl i t, true, m, dead => match ops[i]? with
    | some o => floats P o.op && freeM ops m i && (rdyM ops m).contains i && !(isLoad P o.op && dead) && drFromM P ops t true (m ||| 2 ^ i) dead
    | none => false
  | .fl _ _, false, _, _ => false
  | .alt i e _ t r, top, m, dead => match ops[i]? with
    | some o => !floats P o.op && e == early P ops i && (!top || rdyM ops m == i :: r.heads) && !(early P ops i && dead) && drFromM P ops t true (m ||| 2 ^ i) (dead || !early P ops i) &&
        (r.heads.isEmpty || r.depth == t.depth + 1) && drFromM P ops r false m dead
    | none => false
/-- The listed ones are the bits of m. -/
structure BitsR (ops : Array Oper) (listed : Array Bool) (m : Nat) : Prop where
  size : listed.size = ops.size
  bit : ∀ j d, j < ops.size → listed.getD j d = Nat.testBit m j
  out : ∀ j, ops.size ≤ j → Nat.testBit m j = false
theorem BitsR.get {ops : Array Oper} {listed : Array Bool} {m : Nat} (h : BitsR ops listed m) (j : Nat) : listed.getD j false = Nat.testBit m j := by
  by_cases hj : j < ops.size
  · exact h.bit j false hj
  · rw [h.out j (by omega)]
    unfold Array.getD
    rw [dif_neg (by rw [h.size]; exact hj)]
theorem BitsR.set {ops : Array Oper} {listed : Array Bool} {m : Nat} (h : BitsR ops listed m) {i : Nat} (hi : i < ops.size) : BitsR ops (listed.setIfInBounds i true) (m ||| 2 ^ i) := by
  refine ⟨by rw [Array.size_setIfInBounds]; exact h.size, fun j d hj => ?_, fun j hj => ?_⟩
  · have hb := h.bit j d hj
    rw [Nat.testBit_or, Nat.testBit_two_pow]
    rw [Array.getD_eq_getD_getElem?] at hb ⊢
    rw [Array.getElem?_setIfInBounds]
    by_cases e : i = j
    · subst e
      rw [if_pos rfl, if_pos (by rw [h.size]; exact hi)]
      simp
    · rw [if_neg e, hb, decide_eq_false e, Bool.or_false]
  · rw [Nat.testBit_or, Nat.testBit_two_pow, h.out j hj, decide_eq_false (by omega)]; rfl
theorem rdy_eq {ops : Array Oper} {listed : Array Bool} {m : Nat} (h : BitsR ops listed m) : Region.ready .any ops listed = rdyM ops m := by
  unfold Region.ready rdyM
  apply List.filter_congr
  intro i hi
  rw [h.bit i true (List.mem_range.1 hi)]
  have : ∀ (o : Oper), (o.after.all fun e => !Region.binds .any e || listed.getD e.on false) = (o.after.all fun e => !Region.binds .any e || Nat.testBit m e.on) := fun o => by
    congr 1
    funext e
    rw [h.get]
  simp only [this]
theorem free_eq {ops : Array Oper} {listed : Array Bool} {m : Nat} (h : BitsR ops listed m) (i : Nat) : Region.free .any ops listed i = freeM ops m i := by
  unfold Region.free freeM
  cases ho : ops[i]? with
  | none => rfl
  | some oi =>
    simp only
    rw [Bool.eq_iff_iff, List.all_eq_true, List.all_eq_true]
    constructor
    · intro hall j hj
      have := hall j hj
      rw [h.bit j true (List.mem_range.1 hj)] at this
      exact this
    · intro hall j hj
      have := hall j hj
      rw [h.bit j true (List.mem_range.1 hj)]
      exact this
theorem drFrom_eq {P : Program} {ops : Array Oper} : ∀ (D : DT) (top : Bool) (listed : Array Bool) (m : Nat) (dead : Bool), BitsR ops listed m → drFrom P ops D top listed dead = drFromM P ops D top m dead
  | .done, true, listed, m, dead, h => by unfold drFrom drFromM; rw [rdy_eq h]
  | .done, false, _, _, _, _ => by unfold drFrom drFromM; rfl
  | .no, _, _, _, _, _ => by unfold drFrom drFromM; rfl
  | .fl i t, true, listed, m, dead, h => by
    unfold drFrom drFromM
    rw [rdy_eq h, free_eq h]
    cases ho : ops[i]? with
    | none => rfl
    | some o =>
      have hi : i < ops.size := (Array.getElem?_eq_some_iff.1 ho).1
      simp only
      rw [drFrom_eq t true _ _ dead (h.set hi)]
  | .fl _ _, false, _, _, _, _ => by unfold drFrom drFromM; rfl
  | .alt i e g t r, top, listed, m, dead, h => by
    unfold drFrom drFromM
    rw [rdy_eq h]
    cases ho : ops[i]? with
    | none => rfl
    | some o =>
      have hi : i < ops.size := (Array.getElem?_eq_some_iff.1 ho).1
      simp only
      rw [drFrom_eq t true _ _ _ (h.set hi), drFrom_eq r false _ _ dead h]
theorem drOk_fast {P : Program} {ops : Array Oper} {sched : DT} (h : (Region.noSelect ops && drFromM P ops sched true 0 false && sched.depth == ops.size) = true) : drOk P ops sched := by
  have h0 : BitsR ops (Array.replicate ops.size false) 0 := by
    refine ⟨Array.size_replicate, fun j d hj => ?_, fun j _ => Nat.zero_testBit j⟩
    rw [Array.getD_eq_getD_getElem?, Array.getElem?_replicate, if_pos hj, Nat.zero_testBit]; rfl
  unfold drOk
  rw [drFrom_eq sched true _ _ false h0, h]
  trivial
/-- The numbers that come up, written out. -/
inductive MT where
  | nil
  | fl (m : Nat) (t : MT)
  | alt (m : Nat) (d : Bool) (t r : MT)
def drFromL (P : Program) (ops : Array Oper) : DT → MT → Bool → Nat → Bool → Bool
  | .done, _, true, m, _ => (rdyM ops m).isEmpty
  | .no, _, top, _, _ => !top
  | .fl i t, .fl m' t', true, m, dead => Nat.beq (Nat.lor m (2 ^ i)) m' && match ops[i]? with
    | some o => floats P o.op && freeM ops m i && (rdyM ops m).contains i && !(isLoad P o.op && dead) && drFromL P ops t t' true m' dead
    | none => false
  | .alt i e _ t r, .alt m' d' t' r', top, m, dead => Nat.beq (Nat.lor m (2 ^ i)) m' && ((dead || !early P ops i) == d') && match ops[i]? with
    | some o => !floats P o.op && e == early P ops i && (!top || rdyM ops m == i :: r.heads) && !(early P ops i && dead) && drFromL P ops t t' true m' d' &&
        (r.heads.isEmpty || r.depth == t.depth + 1) && drFromL P ops r r' false m dead
    | none => false
  | _, _, _, _, _ => false
theorem drL_sound {P : Program} {ops : Array Oper} : ∀ (D : DT) (M : MT) (top : Bool) (m : Nat) (dead : Bool), drFromL P ops D M top m dead = true → drFromM P ops D top m dead = true
  | .done, M, true, m, dead, h => by cases M <;> exact h
  | .done, M, false, m, dead, h => by cases M <;> cases h
  | .no, M, top, m, dead, h => by cases M <;> exact h
  | .fl i t, .nil, top, m, dead, h => by cases top <;> cases h
  | .fl i t, .alt _ _ _ _, top, m, dead, h => by cases top <;> cases h
  | .fl i t, .fl m' t', false, m, dead, h => by cases h
  | .fl i t, .fl m' t', true, m, dead, h => by
    unfold drFromL at h
    rw [Bool.and_eq_true] at h
    obtain ⟨h1, h2⟩ := h
    have h1 : m ||| 2 ^ i = m' := Nat.eq_of_beq_eq_true h1
    unfold drFromM
    cases ho : ops[i]? with
    | none => rw [ho] at h2; cases h2
    | some o =>
      rw [ho] at h2
      simp only at h2 ⊢
      rw [Bool.and_eq_true] at h2 ⊢
      rw [h1]
      exact ⟨h2.1, drL_sound t t' true m' dead h2.2⟩
  | .alt i e g t r, .nil, top, m, dead, h => by cases top <;> cases h
  | .alt i e g t r, .fl _ _, top, m, dead, h => by cases top <;> cases h
  | .alt i e g t r, .alt m' d' t' r', top, m, dead, h => by
    unfold drFromL at h
    rw [Bool.and_eq_true, Bool.and_eq_true] at h
    obtain ⟨⟨h1, hd⟩, h2⟩ := h
    have h1 : m ||| 2 ^ i = m' := Nat.eq_of_beq_eq_true h1
    have hd : (dead || !early P ops i) = d' := eq_of_beq hd
    unfold drFromM
    cases ho : ops[i]? with
    | none => rw [ho] at h2; cases h2
    | some o =>
      rw [ho] at h2
      simp only at h2 ⊢
      rw [Bool.and_eq_true, Bool.and_eq_true, Bool.and_eq_true] at h2 ⊢
      rw [h1, hd]
      exact ⟨⟨⟨h2.1.1.1, drL_sound t t' true m' d' h2.1.1.2⟩, h2.1.2⟩, drL_sound r r' false m dead h2.2⟩
theorem drOk_faster {P : Program} {ops : Array Oper} {sched : DT} (M : MT) (h1 : Region.noSelect ops = true) (h2 : drFromL P ops sched M true 0 false = true) (h3 : (sched.depth == ops.size) = true) : drOk P ops sched :=
  drOk_fast (by rw [h1, drL_sound sched M true 0 false h2, h3]; rfl)
end Go.Proofs.YtdlgpolngnkiaaaDoor

/- RootBack: what is written is read as it was. -/
namespace Go.Proofs.YtdlgpolngnkiaaaDoor
open Go
theorem refInts_ok {s t : Sl} {l m : List Int} {V : View} (h : SlR V s l) (k : SlR V t m) : CallV Tryd.prog 25 ⟨[.slice s.a s.n s.c, .slice t.a t.n t.c]⟩ V fun r V' => r = .bool (decide (l = m)) ∧ V' = V := by
  refine f25_x ?_
  unfold f25_n
  have hn := h.n; have hlim := h.lim; have kn := k.n
  refine br_intro (fun hne => ⟨?_, rfl⟩) (fun heq => ?_)
  · have hne : ¬ (s.n : Int) = t.n := by simpa using hne
    rw [decide_eq_false]
    intro e; subst e; omega
  have heq : (s.n : Int) = t.n := by simpa using heq
  refine loop1 (k := .int .i64) (fun (x : Int) V' => V' = V ∧ 0 ≤ x ∧ x ≤ s.n ∧ l.take x.toNat = m.take x.toNat) (fun (x : Int) _ => s.n - x.toNat) ⟨rfl, by omega, by omega, rfl⟩ ?_
  rintro (x : Int) V' ⟨rfl, h0, h1, h2⟩
  refine br_intro (fun hlt => ?_) (fun hge => ?_)
  · have hlt : x < s.n := by simpa using hlt
    obtain ⟨ad, hx, ha, hc, _⟩ := h.int h0 hlt
    obtain ⟨ad', hx', ha', hc', _⟩ := k.int h0 (by omega)
    refine ⟨trivial, V', View.Le.refl _, h0, hlt, ad, ha, _, hc, h0, by omega, ad', ha', _, hc', br_intro (fun hb => ⟨?_, rfl⟩) (fun hb => ⟨inI64 (by omega) (by omega), ⟨rfl, by omega, by omega, ?_⟩, by omega⟩)⟩
    · have hb : ¬ l[x.toNat] = m[x.toNat] := by simpa using hb
      rw [decide_eq_false]
      intro e; subst e; exact hb rfl
    · have hb : l[x.toNat] = m[x.toNat] := by simpa using hb
      rw [show (x + 1).toNat = x.toNat + 1 by omega, List.take_add_one, List.take_add_one, h2, List.getElem?_eq_getElem hx, List.getElem?_eq_getElem hx', hb]
  · have hge : ¬ x < s.n := by simpa using hge
    rw [List.take_of_length_le (by omega), List.take_of_length_le (by omega)] at h2
    exact ⟨by rw [h2]; simp, rfl⟩
theorem refEnts_ok {s t : Sl} {l m : List Ent} {V : View} (h : SlR V s l) (k : SlR V t m) : CallV Tryd.prog 43 ⟨[.slice s.a s.n s.c, .slice t.a t.n t.c]⟩ V fun r V' => r = .bool (decide (l = m)) ∧ V' = V := by
  refine f43_x ?_
  unfold f43_n
  have hn := h.n; have hlim := h.lim; have kn := k.n
  refine br_intro (fun hne => ⟨?_, rfl⟩) (fun heq => ?_)
  · have hne : ¬ (s.n : Int) = t.n := by simpa using hne
    rw [decide_eq_false]
    intro e; subst e; omega
  have heq : (s.n : Int) = t.n := by simpa using heq
  refine loop1 (k := .int .i64) (fun (x : Int) V' => V' = V ∧ 0 ≤ x ∧ x ≤ s.n ∧ l.take x.toNat = m.take x.toNat) (fun (x : Int) _ => s.n - x.toNat) ⟨rfl, by omega, by omega, rfl⟩ ?_
  rintro (x : Int) V' ⟨rfl, h0, h1, h2⟩
  refine br_intro (fun hlt => ?_) (fun hge => ?_)
  · have hlt : x < s.n := by simpa using hlt
    obtain ⟨ad, hx, ha, hc, _⟩ := h.ent h0 hlt
    obtain ⟨ad', hx', ha', hc', _⟩ := k.ent h0 (by omega)
    refine ⟨trivial, V', View.Le.refl _, h0, hlt, ad, ha, _, _, hc, h0, by omega, ad', ha', _, _, hc', trivial, ?_⟩
    rw [ent_eq]
    refine br_intro (fun hb => ⟨?_, rfl⟩) (fun hb => ⟨inI64 (by omega) (by omega), ⟨rfl, by omega, by omega, ?_⟩, by omega⟩)
    · have hb : ¬ l[x.toNat] = m[x.toNat] := by simpa using hb
      rw [decide_eq_false]
      intro e; subst e; exact hb rfl
    · have hb : l[x.toNat] = m[x.toNat] := by simpa using hb
      rw [show (x + 1).toNat = x.toNat + 1 by omega, List.take_add_one, List.take_add_one, h2, List.getElem?_eq_getElem hx, List.getElem?_eq_getElem hx', hb]
  · have hge : ¬ x < s.n := by simpa using hge
    rw [List.take_of_length_le (by omega), List.take_of_length_le (by omega)] at h2
    exact ⟨by rw [h2]; simp, rfl⟩
theorem refSameN_ok {a b : Nod} {s e s' e' : Sl} {V : View} (h : NodR V s e a) (k : NodR V s' e' b) : CallV Tryd.prog 14 ⟨[nodV a s e, nodV b s' e']⟩ V fun r V' => r = .bool (decide (a = b)) ∧ V' = V := by
  refine f14_x ?_
  unfold f14_n
  rw [nod_eq]
  refine fun _ _ => joinP_cut (fun q V' => q.1 = (decide (a.kind = b.kind) && decide (a.links = b.links) && decide (a.size = b.size) && (decide (a.seqs = b.seqs) && decide (a.ents = b.ents))) ∧ V' = V) (br_intro (fun hb => (refInts_ok h.seqs k.seqs).mono ?_) (fun hb => ⟨?_, rfl⟩)) ?_
  · have hb : (decide (a.kind = b.kind) && decide (a.links = b.links) && decide (a.size = b.size)) = true := by
      cases h1 : decide (a.kind = b.kind) <;> cases h2 : decide (a.links = b.links) <;> cases h3 : decide (a.size = b.size) <;> simp_all
    rw [hb]
    rintro r V1 ⟨rfl, rfl⟩
    refine ⟨_, rfl, br_intro (fun h1 => (refEnts_ok h.ents k.ents).mono ?_) (fun h1 => ⟨by rw [h1]; rfl, rfl⟩)⟩
    rintro r V2 ⟨rfl, rfl⟩
    exact ⟨_, rfl, by rw [h1]; rfl, rfl⟩
  · have hb : (decide (a.kind = b.kind) && decide (a.links = b.links) && decide (a.size = b.size)) = false := by
      cases h1 : decide (a.kind = b.kind) <;> cases h2 : decide (a.links = b.links) <;> cases h3 : decide (a.size = b.size) <;> simp_all
    rw [hb]; rfl
  · rintro ⟨q, ⟨⟩⟩ V1 ⟨h1, hV⟩
    simp only at h1 hV
    subst h1 hV
    exact ⟨rfl, rfl⟩
theorem refSameT_ok {s t : Sl} {l m : Tre} {V : View} (h : SlR V s l) (k : SlR V t m) : CallV Tryd.prog 15 ⟨[treV s, treV t]⟩ V fun r V' => r = .bool (decide (l = m)) ∧ V' = V := by
  refine f15_x ?_
  unfold f15_n
  have hn := h.n; have hlim := h.lim; have kn := k.n
  refine fun _ _ => br_intro (fun hne => ⟨?_, rfl⟩) (fun heq => ?_)
  · have hne : ¬ (s.n : Int) = t.n := by simpa using hne
    rw [decide_eq_false]
    intro e; subst e; omega
  have heq : (s.n : Int) = t.n := by simpa using heq
  refine loop1 (k := .int .i64) (fun (x : Int) V' => V' = V ∧ 0 ≤ x ∧ x ≤ s.n ∧ l.take x.toNat = m.take x.toNat) (fun (x : Int) _ => s.n - x.toNat) ⟨rfl, by omega, by omega, rfl⟩ ?_
  rintro (x : Int) V' ⟨rfl, h0, h1, h2⟩
  refine br_intro (fun hlt => ?_) (fun hge => ?_)
  · have hlt : x < s.n := by simpa using hlt
    obtain ⟨ad, sq, en, hx, ha, hc, hN⟩ := h.nod h0 hlt
    obtain ⟨ad', sq', en', hx', ha', hc', hN'⟩ := k.nod h0 (by omega)
    refine ⟨trivial, V', View.Le.refl _, h0, hlt, ad, ha, _, _, _, sq, en, hc, h0, by omega, ad', ha', _, _, _, sq', en', hc', (refSameN_ok hN hN').mono ?_⟩
    rintro r V1 ⟨rfl, rfl⟩
    refine ⟨_, rfl, br_intro (fun hb => ⟨?_, rfl⟩) (fun hb => ⟨inI64 (by omega) (by omega), ⟨rfl, by omega, by omega, ?_⟩, by omega⟩)⟩
    · have hb : ¬ l[x.toNat] = m[x.toNat] := of_decide_eq_false (not_t hb)
      rw [decide_eq_false]
      intro e; subst e; exact hb rfl
    · have hb : l[x.toNat] = m[x.toNat] := of_decide_eq_true (not_f hb)
      rw [show (x + 1).toNat = x.toNat + 1 by omega, List.take_add_one, List.take_add_one, h2, List.getElem?_eq_getElem hx, List.getElem?_eq_getElem hx', hb]
  · have hge : ¬ x < s.n := by simpa using hge
    rw [List.take_of_length_le (by omega), List.take_of_length_le (by omega)] at h2
    exact ⟨by rw [h2]; simp, rfl⟩
/-! ### sheets -/
theorem numL_small {n : Nat} (h : n < 128) : (numL n).length = 1 := by
  have : n / 128 = 0 := Nat.div_eq_of_lt h
  unfold numL
  rw [this]
  rfl
theorem numI_small {n : Int} (h0 : 0 ≤ n) (h : n < 128) : (numI n).length = 1 := by
  unfold numI
  exact numL_small (by unfold clampN; omega)
theorem numI_six (n : Int) : (numI n).length ≤ 6 := by
  unfold numI numL
  have := hi_len5 (clampN_le n)
  simp only [List.length_append, List.length_cons, List.length_nil]
  omega
theorem numsL_six : ∀ l : List Int, (numsL l).length ≤ 6 * l.length
  | [] => by simp [numsL]
  | n :: l => by
    have h1 := numsL_six l
    have h2 := numI_six n
    have e : numsL (n :: l) = numI n ++ numsL l := by simp [numsL]
    rw [e, List.length_append, List.length_cons]; omega
theorem encE_ten {x : Ent} (h8 : x.name.size ≤ 8) (h0 : 0 ≤ x.node) (h1 : x.node < 12) : (encE x).length ≤ 10 := by
  unfold encE textL
  have a := numI_small (n := ((bl x.name).length : Nat)) (by omega) (by rw [bl_len]; omega)
  have b := numI_small h0 (show x.node < 128 by omega)
  have c := bl_len x.name
  simp only [List.length_append]
  omega
theorem encEs_ten : ∀ {l : List Ent}, (∀ x ∈ l, x.name.size ≤ 8 ∧ 0 ≤ x.node ∧ x.node < 12) → (encEs l).length ≤ 10 * l.length
  | [], _ => by simp [encEs]
  | x :: l, h => by
    have h1 := encEs_ten (l := l) fun y hy => h y (by simp [hy])
    have hx := h x (by simp)
    have h2 := encE_ten hx.1 hx.2.1 hx.2.2
    have e : encEs (x :: l) = encE x ++ encEs l := by simp [encEs]
    rw [e, List.length_append, List.length_cons]; omega
theorem encN_short {n : Nod} (h : mayN n = true) : (encN n).length ≤ 102 := by
  have h1 := mayN_seqs h
  have h2 := mayL_len (mayN_ents h)
  have h3 := encEs_ten (l := n.ents) fun x hx => by
    have := mayL_node (mayN_ents h) hx
    have := mayB_size this.2.2
    omega
  have h4 := numsL_six n.seqs
  by_cases k1 : n.kind = 1
  · rw [encN_1 k1]
    have a : (numI 1).length = 1 := rfl
    have b := numI_six n.links
    have c := numI_six n.size
    simp only [List.length_append]; omega
  · by_cases k2 : n.kind = 2
    · rw [encN_2 k2]
      have a : (numI 2).length = 1 := rfl
      have b := numI_small (n := ((n.ents.length : Nat) : Int)) (by omega) (by omega)
      simp only [List.length_append]; omega
    · rw [encN_0 k1 k2]
      have := numI_six n.kind
      omega
theorem encT_short : ∀ {t : Tre}, (∀ n ∈ t, mayN n = true) → (encT t).length ≤ 102 * t.length
  | [], _ => by simp [encT]
  | n :: t, h => by
    have h1 := encT_short (t := t) fun y hy => h y (by simp [hy])
    have h2 := encN_short (h n (by simp))
    have e : encT (n :: t) = encN n ++ encT t := by simp [encT]
    rw [e, List.length_append, List.length_cons]; omega
theorem laidEnd {V V0 : View} {x : Sl} {l : List UInt8} {r : Nat} {C : Sl → View → Prop} (hb : Buf V x 5 1 (u8s l)) (hle : V0.Le (V.minus x)) (hr : rowAt V (some ⟨r, 0, none⟩) (1 * 1) (u8s [90])) (hl : l.length ≤ 4000)
    (hC : ∀ s V', s.n = l.length + 1 → V0.Le V' → C s V') : apV V 5 1 1 [.int .u8 0] x (.slice (some ⟨r, 0, none⟩) 1 1) C := by
  have hxn : x.n = l.length := by have := hb.len; rw [u8s_len, Nat.mul_one] at this; exact this.symm
  refine apV_buf rfl hb (src := u8s [90]) (m := 1) ⟨rfl, hr⟩ rfl (u8s_one _) (by show (x.n + 1) * 1 ≤ _; omega) (by show x.n + 1 ≤ _; omega) fun s V' _ hn hle' => ?_
  exact hC s V' (by rw [hn, hxn]) ((hle.trans hle').trans (View.minus_le _ _))
theorem row90 {V : View} {r : Nat} (h : V.see r = some (.cells ⟨putL [.int .u8 0] 0 [.int .u8 90]⟩ 5 (0, 0))) : rowAt V (some ⟨r, 0, none⟩) (1 * 1) (u8s [90]) := rowAt_new h rfl
end Go.Proofs.YtdlgpolngnkiaaaDoor

/- RootClears. -/
namespace Go.Proofs.YtdlgpolngnkiaaaDoor
open Go
/-! ### plain -/
theorem clearN_cases (n : Nod) : (n.kind = 1 ∧ n.links = 0 ∧ clearN n = Nod.zero) ∨ (¬ (n.kind = 1 ∧ n.links = 0) ∧ clearN n = n) := by
  unfold clearN
  by_cases h : n.kind = 1 ∧ n.links = 0
  · exact .inl ⟨h.1, h.2, by rw [if_pos h]⟩
  · exact .inr ⟨h, by rw [if_neg h]⟩
theorem clear_getD {t : Tre} {i : Nat} (hi : i < t.length) : (clearU t).getD i default = clearN (t.getD i default) := by
  unfold clearU
  rw [List.getD_eq_getElem?_getD, List.getElem?_map, List.getElem?_eq_getElem hi, getD_at hi]; rfl
theorem clear_len (t : Tre) : (clearU t).length = t.length := by simp [clearU]
theorem file_ents {n : Nod} (h : mayN n = true) (hk : n.kind = 1) : n.ents = [] := by
  unfold mayN at h
  rw [if_neg (by omega), if_pos hk] at h
  unfold fileB at h
  simp only [Bool.and_eq_true, decide_eq_true_eq] at h
  exact List.eq_nil_of_length_eq_zero h.1.2
theorem clearN_ents {n : Nod} (h : mayN n = true) : (clearN n).ents = n.ents := by
  rcases clearN_cases n with ⟨h1, _, h3⟩ | ⟨_, h3⟩
  · rw [h3, file_ents h h1]; rfl
  · rw [h3]
theorem clear_ents {t : Tre} (h : MayF t) (i : Nat) : entsT (clearU t) i = entsT t i := by
  unfold entsT
  by_cases hi : i < 12
  · rw [clear_getD (by rw [h.len]; exact hi), clearN_ents (h.at hi)]
  · rw [List.getD_eq_getElem?_getD, List.getD_eq_getElem?_getD, List.getElem?_eq_none (by rw [clear_len, h.len]; omega), List.getElem?_eq_none (by rw [h.len]; omega)]
theorem reach_congr {t u : Tre} (h : ∀ i, entsT t i = entsT u i) {a b : Nat} (hr : Reach t a b) : Reach u a b := by
  induction hr with
  | refl => exact .refl
  | @step i x _ hx ih =>
    refine .step ih ?_
    have := h i
    unfold entsT at this
    rw [← this]; exact hx
theorem metB_congr {t u : Tre} (h : ∀ i, entsT t i = entsT u i) (a b : Nat) : metB t a b = metB u a b := by
  rw [Bool.eq_iff_iff, metB_iff, metB_iff]
  exact ⟨reach_congr h, reach_congr fun i => (h i).symm⟩
theorem clear_allE : ∀ {t : Tre}, (∀ n ∈ t, mayN n = true) → allE (clearU t) = allE t
  | [], _ => rfl
  | n :: t, h => by
    have ih := clear_allE (t := t) fun m hm => h m (by simp [hm])
    have e : clearU (n :: t) = clearN n :: clearU t := rfl
    rw [e, allE_cons, allE_cons, ih, clearN_ents (h n (by simp))]
theorem mayN_zero : mayN Nod.zero = true := by decide
theorem clear_seqs (n : Nod) : List.Sublist ((clearN n).seqs.filter (fun s => decide (s ≠ 0))) (n.seqs.filter (fun s => decide (s ≠ 0))) := by
  rcases clearN_cases n with ⟨_, _, h3⟩ | ⟨_, h3⟩
  · rw [h3]; exact List.nil_sublist _
  · rw [h3]; exact List.Sublist.refl _
theorem clear_allS : ∀ t : Tre, List.Sublist ((allS (clearU t)).filter (fun s => decide (s ≠ 0))) ((allS t).filter (fun s => decide (s ≠ 0)))
  | [] => List.Sublist.refl _
  | n :: t => by
    have e1 : allS (clearU (n :: t)) = (clearN n).seqs ++ allS (clearU t) := by simp [clearU, allS]
    have e2 : allS (n :: t) = n.seqs ++ allS t := by simp [allS]
    rw [e1, e2, List.filter_append, List.filter_append]
    exact (clear_seqs n).append (clear_allS t)
theorem mayT_clear {t : Tre} (hM : mayT t = true) : mayT (clearU t) = true := by
  have hF := mayF hM
  obtain ⟨h12, hall, hk, hh, hap⟩ := mayT_all hM
  unfold mayT
  simp only [Bool.and_eq_true, decide_eq_true_eq, List.all_eq_true, List.mem_range]
  refine ⟨⟨⟨⟨by rw [clear_len, h12], fun n hn => ?_⟩, ?_⟩, fun i hi => ?_⟩, ?_⟩
  · obtain ⟨m, hm, rfl⟩ := List.mem_map.1 hn
    rcases clearN_cases m with ⟨_, _, h3⟩ | ⟨_, h3⟩
    · rw [h3]; exact mayN_zero
    · rw [h3]; exact hall m hm
  · rw [clear_getD (by omega)]
    rcases clearN_cases (t.getD 0 default) with ⟨h1, _, _⟩ | ⟨_, h3⟩
    · have hk : (t.getD 0 default).kind = 2 := hk
      omega
    · rw [h3]; exact hk
  · have hb := hh i hi
    rw [clear_getD (by omega), clear_allE hall, metB_congr (clear_ents hF)]
    rcases clearN_cases (t.getD i default) with ⟨h1, h2, h3⟩ | ⟨_, h3⟩
    · rw [h3]
      unfold hangB at hb ⊢
      rw [if_neg (by omega), if_pos h1] at hb
      have hb := of_decide_eq_true hb
      rw [if_neg (by decide), if_neg (by decide)]
      exact decide_eq_true (by omega)
    · rw [h3]; exact hb
  · unfold apartL at hap ⊢
    exact decide_eq_true ((of_decide_eq_true hap).sublist (clear_allS t))
theorem clear_twice (t : Tre) : clearU (clearU t) = clearU t := by
  unfold clearU
  rw [List.map_map]
  congr 1
  funext n
  show clearN (clearN n) = clearN n
  rcases clearN_cases n with ⟨_, _, h3⟩ | ⟨_, h3⟩
  · rw [h3]; decide
  · rw [h3]; exact h3
theorem walkT_clear {t : Tre} (hM : mayT t = true) : walkT (clearU t) = walkT t := by
  unfold walkT
  rw [if_pos hM, if_pos (mayT_clear hM)]
  exact walkG_congr (clear_ents (mayF hM)) 12 0 []
theorem refsN_clear (i : Int) (n : Nod) : (refsN i (clearN n)).length ≤ (refsN i n).length := by
  rcases clearN_cases n with ⟨_, _, h3⟩ | ⟨_, h3⟩
  · rw [h3]
    have : refsN i Nod.zero = [] := by unfold refsN; rw [if_neg (by rintro ⟨h, _⟩; cases h)]
    rw [this]; exact Nat.zero_le _
  · rw [h3]; exact Nat.le_refl _
theorem refsU_clear {t : Tre} (h12 : t.length = 12) : ∀ k, k ≤ 12 → (refsU (clearU t) k).length ≤ (refsU t k).length
  | 0, _ => by simp [refsU]
  | k + 1, hk => by
    have ih := refsU_clear h12 k (by omega)
    have := refsN_clear (k : Int) (t.getD k default)
    rw [refsU_succ, refsU_succ, List.length_append, List.length_append, clear_getD (by omega)]
    omega
theorem refsT_clear {t : Tre} (hM : mayT t = true) : (refsT (clearU t)).length ≤ (refsT t).length := by
  have h12 := (mayT_all hM).1
  unfold refsT
  rw [if_pos hM, if_pos (mayT_clear hM), clear_len, h12]
  exact refsU_clear h12 12 (by omega)
theorem clearT_of {t : Tre} (hM : mayT t = true) : clearT t = clearU t := by unfold clearT; rw [if_pos hM]
end Go.Proofs.YtdlgpolngnkiaaaDoor

/- DirWalks. -/
namespace Go.Proofs.YtdlgpolngnkiaaaDoor
open Go
theorem bl_extract (x : ByteArray) (n : Nat) : bl (x.extract 0 n) = (bl x).take n := by
  unfold bl
  rw [ByteArray.data_extract, Array.toList_extract]
  simp
theorem goes_on {x s : ByteArray} (h1 : s.size < x.size) (h2 : x.extract 0 s.size = s) (h3 : (x.data.toList.getD s.size 0).toNat = 47) : ∃ r, bl x = bl s ++ 47 :: r := by
  have hl : s.size < (bl x).length := by rw [bl_len]; exact h1
  refine ⟨(bl x).drop (s.size + 1), ?_⟩
  have e1 : (bl x).take s.size = bl s := by rw [← bl_extract, h2]
  have e2 : (bl x)[s.size] = 47 := by
    have : x.data.toList.getD s.size 0 = (bl x)[s.size] := by rw [List.getD_eq_getElem?_getD, List.getElem?_eq_getElem (show s.size < x.data.toList.length from hl)]; rfl
    rw [this] at h3
    exact UInt8.toNat_inj.1 h3
  rw [← e1, ← e2, List.getElem_cons_drop, List.take_append_drop]
theorem size_lim {V : View} {x : Sl} {l : List ByteArray} (h : SlR V x l) {i : Nat} (hi : i < l.length) : l[i].size ≤ 9223372036854775807 := by
  obtain ⟨_, _, _, h2⟩ := h.strN hi
  exact h2
theorem told_snoc {l : List ByteArray} {i : Nat} (hi : i < l.length) (p : ByteArray) : ((l.take (i + 1)).any fun s => decide (s = p)) = (((l.take i).any fun s => decide (s = p)) || decide (l[i] = p)) := by
  rw [List.take_add_one, List.getElem?_eq_getElem hi, List.any_append]
  simp
end Go.Proofs.YtdlgpolngnkiaaaDoor

/- Calls on names, as plain functions of trees. No program in this text. -/
namespace Go.Proofs.YtdlgpolngnkiaaaDoor
open Go
/-! ### entries -/
def insE (l : List Ent) (x : Ent) : List Ent := l.takeWhile (fun e => sLess e.name x.name) ++ x :: l.dropWhile (fun e => sLess e.name x.name)
def cutE (l : List Ent) (s : ByteArray) : List Ent := l.filter fun e => !decide (e.name = s)
def hasE (l : List Ent) (s : ByteArray) : Bool := l.any fun e => decide (e.name = s)
def withE (l : List Ent) (x : Ent) : Except Int (List Ent) :=
  if (mayL l && soleE x) = true then (if hasE l x.name = true then .error 9 else if 10 ≤ l.length then .error 14 else .ok (insE l x)) else .error 1
def withoutE (l : List Ent) (s : ByteArray) : Except Int (List Ent) := if mayL l = true then (if hasE l s = true then .ok (cutE l s) else .error 8) else .error 1
theorem idx_has (l : List Ent) (s : ByteArray) : decide (0 ≤ idxI (fun e : Ent => decide (e.name = s)) l) = hasE l s := by
  rcases idxI_find (fun e : Ent => decide (e.name = s)) l with ⟨h1, h2⟩ | ⟨i, hi, h1, h2⟩
  · rw [h1]
    unfold hasE
    rw [decide_eq_false (by decide), eq_comm, List.any_eq_false]
    intro e he
    have := List.find?_eq_none.1 h2 e he
    simpa using this
  · rw [h1, decide_eq_true (by omega), eq_comm]
    unfold hasE
    rw [List.any_eq_true]
    exact ⟨_, List.mem_of_find?_eq_some h2, by have := List.find?_some h2; simpa using this⟩
theorem at_has {l : List Ent} (h : ∀ e ∈ l, 0 ≤ e.node) (s : ByteArray) : decide (0 ≤ atI l s) = hasE l s := by
  unfold atI
  cases hf : l.find? (fun x => decide (x.name = s)) with
  | none =>
    unfold hasE
    rw [decide_eq_false (by decide), eq_comm, List.any_eq_false]
    intro e he
    have := List.find?_eq_none.1 hf e he
    simpa using this
  | some x =>
    have hm := List.mem_of_find?_eq_some hf
    rw [decide_eq_true (h x hm), eq_comm]
    unfold hasE
    rw [List.any_eq_true]
    exact ⟨x, hm, by have := List.find?_some hf; simpa using this⟩
theorem has_false {l : List Ent} {s : ByteArray} : hasE l s = false ↔ ∀ e ∈ l, e.name ≠ s := by
  unfold hasE; rw [List.any_eq_false]
  exact ⟨fun h e he => by simpa using h e he, fun h e he => by simpa using h e he⟩
theorem has_true {l : List Ent} {s : ByteArray} : hasE l s = true ↔ ∃ e ∈ l, e.name = s := by
  unfold hasE; rw [List.any_eq_true]
  exact ⟨fun ⟨e, h1, h2⟩ => ⟨e, h1, of_decide_eq_true h2⟩, fun ⟨e, h1, h2⟩ => ⟨e, h1, decide_eq_true h2⟩⟩
theorem cut_none {l : List Ent} {s : ByteArray} (h : hasE l s = false) : cutE l s = l := by
  unfold cutE; rw [List.filter_eq_self]
  intro e he
  rw [decide_eq_false (has_false.1 h e he)]; rfl
theorem cut_len (l : List Ent) (s : ByteArray) : (cutE l s).length ≤ l.length := List.length_filter_le _ _
theorem cut_has (l : List Ent) (s : ByteArray) : hasE (cutE l s) s = false := has_false.2 fun e he => by
  unfold cutE at he
  simpa using (List.mem_filter.1 he).2
theorem cut_mem {l : List Ent} {s : ByteArray} {e : Ent} : e ∈ cutE l s ↔ e ∈ l ∧ e.name ≠ s := by
  unfold cutE; rw [List.mem_filter]; simp
/-- Where it is taken away: by its place. -/
theorem cut_erase : ∀ {l : List Ent} {s : ByteArray} {i : Nat} (hi : i < l.length), (l.Pairwise fun a b => a.name ≠ b.name) → l[i].name = s → cutE l s = l.take i ++ l.drop (i + 1)
  | e :: l, s, 0, _, hp, hs => by
    rw [List.pairwise_cons] at hp
    have h1 : cutE (e :: l) s = cutE l s := by
      unfold cutE
      rw [List.filter_cons_of_neg (by simpa using hs)]
    rw [h1, cut_none (has_false.2 fun x hx hxs => hp.1 x hx (by rw [hxs]; exact hs))]; rfl
  | e :: l, s, i + 1, hi, hp, hs => by
    rw [List.pairwise_cons] at hp
    have hi' : i < l.length := by simpa using hi
    have hs' : l[i].name = s := by simpa using hs
    have h1 : cutE (e :: l) s = e :: cutE l s := by
      unfold cutE
      rw [List.filter_cons_of_pos]
      have := hp.1 l[i] (List.getElem_mem hi')
      simp; rw [← hs']; exact this
    rw [h1, cut_erase hi' hp.2 hs']; rfl
/-! ### trees -/
def entT (t : Tre) (d : Nat) (l : List Ent) : Tre := t.set d { t.getD d default with ents := l }
def emptyN (k : Int) : Nod := if k = 1 then ⟨1, 1, 0, [0, 0, 0, 0, 0], []⟩ else if k = 2 then ⟨2, 1, 0, [], []⟩ else Nod.zero
def heldB (held : List Bool) (i : Nat) : Bool := held.getD i false
/-- A name less of a node. -/
def lessT (t : Tre) (i : Nat) (held : List Bool) : Tre :=
  if kindT t i = 1 ∧ (0 < (t.getD i default).links - 1 ∨ heldB held i = true) then t.set i { t.getD i default with links := (t.getD i default).links - 1 } else t.set i Nod.zero
noncomputable def makesT (t : Tre) (p : ByteArray) (k : Int) : Except Int Tre := match parentT t p with
  | .error e => .error e
  | .ok (d, s) => if 0 ≤ atI (entsT t d) s then .error 9 else if freeT t < 0 then .error 14 else if 10 ≤ (entsT t d).length then .error 14 else
    .ok ((entT t d (insE (entsT t d) ⟨s, freeT t⟩)).set (freeT t).toNat (emptyN k))
noncomputable def unlinkT (t : Tre) (p : ByteArray) (held : List Bool) : Except Int Tre := match parentT t p with
  | .error e => .error e
  | .ok (d, s) => if atI (entsT t d) s < 0 then .error 8 else if kindT t (atI (entsT t d) s).toNat = 2 then .error 10 else
    .ok (lessT (entT t d (cutE (entsT t d) s)) (atI (entsT t d) s).toNat held)
noncomputable def rmdirT (t : Tre) (p : ByteArray) : Except Int Tre := match parentT t p with
  | .error e => .error e
  | .ok (d, s) => if atI (entsT t d) s < 0 then .error 8 else if kindT t (atI (entsT t d) s).toNat ≠ 2 then .error 11 else if 0 < (entsT t (atI (entsT t d) s).toNat).length then .error 12 else
    .ok ((entT t d (cutE (entsT t d) s)).set (atI (entsT t d) s).toNat Nod.zero)
noncomputable def linkT (t : Tre) (p q : ByteArray) : Except Int Tre := match findT t p with
  | .error e => .error e
  | .ok i => if kindT t i = 2 then .error 10 else match parentT t q with
    | .error e => .error e
    | .ok (d, s) => if 0 ≤ atI (entsT t d) s then .error 9 else if 10 ≤ (entsT t d).length then .error 14 else
      .ok ((entT t d (insE (entsT t d) ⟨s, i⟩)).set i { t.getD i default with links := (t.getD i default).links + 1 })
def replN (a b : Nod) : Int := if a.kind = 2 ∧ b.kind ≠ 2 then 11 else if a.kind ≠ 2 ∧ b.kind = 2 then 10 else if 0 < b.ents.length then 12 else 0
/-- Behind the checks: out of one place, into another one. -/
def moveT (t : Tre) (d : Nat) (s : ByteArray) (_i : Nat) (f : Nat) (r : ByteArray) (k : Int) (held : List Bool) : Tre :=
  if 0 ≤ k then lessT (entT (entT t d (cutE (entsT t d) s)) f (cutE (entsT (entT t d (cutE (entsT t d) s)) f) r)) k.toNat held else entT t d (cutE (entsT t d) s)
noncomputable def renameT (t : Tre) (p q : ByteArray) (held : List Bool) : Except Int Tre := match parentT t p with
  | .error e => .error e
  | .ok (d, s) => if atI (entsT t d) s < 0 then .error 8 else match parentT t q with
    | .error e => .error e
    | .ok (f, r) => if atI (entsT t f) r = atI (entsT t d) s then .ok t else if insideT t (atI (entsT t d) s) f = true then .error 17 else
      if 0 ≤ atI (entsT t f) r ∧ replN (t.getD (atI (entsT t d) s).toNat default) (t.getD (atI (entsT t f) r).toNat default) ≠ 0 then .error (replN (t.getD (atI (entsT t d) s).toNat default) (t.getD (atI (entsT t f) r).toNat default)) else
      if 10 ≤ (entsT (moveT t d s (atI (entsT t d) s).toNat f r (atI (entsT t f) r) held) f).length then .error 14 else
      .ok (entT (moveT t d s (atI (entsT t d) s).toNat f r (atI (entsT t f) r) held) f (insE (entsT (moveT t d s (atI (entsT t d) s).toNat f r (atI (entsT t f) r) held) f) ⟨r, atI (entsT t d) s⟩))
noncomputable def dropT (t : Tre) (i : Int) : Except Int Tre := if mayT t = true then (if 0 ≤ i ∧ i < 12 ∧ kindT t i.toNat = 1 ∧ (t.getD i.toNat default).links ≤ 0 then .ok (t.set i.toNat Nod.zero) else .error 18) else .error 1
/-! ### what is told of a parent -/
theorem mayB_of {s : ByteArray} {l : List ByteArray} (h : splitP s = some l) {n : ByteArray} (hn : n ∈ l) : mayB n = true := List.all_eq_true.1 (splitP_some h).2.1 n hn
structure Par (t : Tre) (p : ByteArray) (ld : List ByteArray) (d : Nat) (s : ByteArray) : Prop where
  may : mayT t = true
  split : splitP p = some (ld ++ [s])
  go : goF t 0 ld = .ok d
  kind : kindT t d = 2
theorem Par.eq {t : Tre} {p s : ByteArray} {ld : List ByteArray} {d : Nat} (h : Par t p ld d s) : parentT t p = .ok (d, s) := by
  unfold parentT
  rw [if_pos h.may, last_of h.split]
  show (if (0 : Int) = 0 then _ else _) = _
  rw [if_pos rfl, find_of h.may (split_drop h.split), h.go]
  show (if kindT t d = 2 then _ else _) = _
  rw [if_pos h.kind]
theorem par_of {t : Tre} {p s : ByteArray} {d : Nat} (h : parentT t p = .ok (d, s)) : ∃ ld, Par t p ld d s := by
  unfold parentT at h
  split at h
  · rename_i hM
    split at h
    · rename_i h0
      have hsp : ∃ l n, splitP p = some (l ++ [n]) := by
        unfold lastP at h0
        split at h0
        · exact absurd h0 (by decide)
        · rename_i l hl
          rcases nil_or_snoc l with rfl | ⟨m, n, rfl⟩
          · simp at h0
          · exact ⟨m, n, hl⟩
      obtain ⟨l, n, hl⟩ := hsp
      rw [last_of hl] at h
      rw [find_of hM (split_drop hl)] at h
      cases hg : goF t 0 l with
      | error e => simp only [hg] at h; cases h
      | ok i =>
        simp only [hg] at h
        split at h
        · rename_i hk
          cases h
          exact ⟨l, hM, hl, hg, hk⟩
        · cases h
    · cases h
  · cases h
theorem Par.sole {t : Tre} {p s : ByteArray} {ld : List ByteArray} {d : Nat} (h : Par t p ld d s) : mayB s = true := mayB_of h.split (by simp)
theorem Par.size {t : Tre} {p s : ByteArray} {ld : List ByteArray} {d : Nat} (h : Par t p ld d s) : s.size ≤ 8 := (mayB_size h.sole).2
theorem Par.d12 {t : Tre} {p s : ByteArray} {ld : List ByteArray} {d : Nat} (h : Par t p ld d s) : d < 12 := goF_range (mayT_all h.may).1 (mayT_node h.may) (by omega) h.go
theorem Par.mayL {t : Tre} {p s : ByteArray} {ld : List ByteArray} {d : Nat} (h : Par t p ld d s) : mayL (entsT t d) = true := mayN_ents ((mayF h.may).at h.d12)
theorem Par.find {t : Tre} {p s : ByteArray} {ld : List ByteArray} {d : Nat} (h : Par t p ld d s) : findT t p = goF t 0 (ld ++ [s]) := find_of h.may h.split
theorem Par.at {t : Tre} {p s : ByteArray} {ld : List ByteArray} {d : Nat} (h : Par t p ld d s) : atI (entsT t d) s = -1 ∨ (1 ≤ atI (entsT t d) s ∧ atI (entsT t d) s < 12) := atI_range (mayT_node h.may _ (getD_mem (by rw [(mayT_all h.may).1]; exact h.d12)))
theorem mayL_pos {l : List Ent} (h : mayL l = true) : ∀ e ∈ l, 0 ≤ e.node := fun e he => by have := mayL_node h he; omega
end Go.Proofs.YtdlgpolngnkiaaaDoor

/- Contracts of calls on names: rows of entries, names that enter and leave. -/
namespace Go.Proofs.YtdlgpolngnkiaaaDoor
open Go
theorem grow_ok {V : View} {a : Int} (h0 : 0 ≤ a) (h1 : a ≤ 100000) : CallV Tryd.prog 88 ⟨[.slice none 0 0, .int .i64 a]⟩ V fun r V' => ∃ x : Sl, r = .slice x.a x.n x.c ∧ Buf V' x 62 2 [] ∧ V.Le (V'.minus x) := by
  refine f88_x (a0 := ⟨none, 0, 0⟩) ?_
  unfold f88_n
  refine joinP_cut (fun _ V' => V' = V) (br_intro (fun h => absurd (of_decide_eq_true h) (by omega)) (fun _ => rfl)) ?_
  rintro ⟨⟩ V1 rfl
  refine ⟨inI64 (by show -9223372036854775808 ≤ (0 : Int) - 0; omega) (by show (0 : Int) - 0 ≤ _; omega), inI64 (by show -9223372036854775808 ≤ a - ((0 : Int) - 0); omega) (by show a - ((0 : Int) - 0) ≤ _; omega), ?_⟩
  refine joinP_cut (fun s V' => Buf V' s.1 62 2 [] ∧ V1.Le (V'.minus s.1)) (br_intro (fun hp => ?_) (fun _ => ⟨Buf.nil _ _ _, View.Le.refl _⟩)) ?_
  · refine ⟨Int.le_refl _, Int.le_refl _, Int.le_refl _, ?_⟩
    refine apV_buf (cs := []) (src := (List.replicate a.toNat [.string (ba []), .int .i64 0]).flatten) (m := a.toNat) (x := ⟨none, 0, 0⟩) rfl (Buf.nil _ _ _) ⟨?_, ?_, ?_⟩ ?_ ?_ ?_ ?_ ?_
    · show 0 ≤ a - ((0 : Int) - 0); omega
    · show a.toNat = (a - ((0 : Int) - 0)).toNat; congr 1; omega
    · rfl
    · rw [List.length_flatten, List.map_replicate, List.sum_replicate_nat]; simp
    · rw [List.all_flatten, List.all_eq_true]
      intro l hl
      rw [List.eq_of_mem_replicate hl]; rfl
    · show (0 + a.toNat) * 24 ≤ _; omega
    · show 0 + a.toNat ≤ _; omega
    · intro s V2 hb hn hle
      have hcut := hb.cut (k := 0) (Nat.zero_le _)
      refine ⟨Int.le_refl _, Int.le_refl _, by show (0 : Int) ≤ s.c; omega, ?_⟩
      have e : (⟨if s.c = 0 then s.a else s.a.map fun q => q.add 0, (0 : Int).toNat - 0, s.c - 0⟩ : Sl) = ⟨s.a, 0, s.c⟩ := by
        rw [map_add_zero]; split <;> rfl
      show Buf V2 ⟨if s.c = 0 then s.a else s.a.map fun q => q.add 0, (0 : Int).toNat - 0, s.c - 0⟩ _ _ _ ∧ V1.Le (V2.minus ⟨if s.c = 0 then s.a else s.a.map fun q => q.add 0, (0 : Int).toNat - 0, s.c - 0⟩)
      rw [e]
      exact ⟨by simpa using hcut, hle⟩
  · rintro ⟨s, ⟨⟩⟩ V2 ⟨g1, g2⟩
    exact ⟨s, rfl, g1, g2⟩
theorem SlR.slN {α : Type} [Rep α] {V : View} {s : Sl} {ls : List (List α)} (h : SlR V s ls) {i : Nat} (hi : i < ls.length) : ∃ ad y, s.a = some ad ∧ V.cell? (ad.add (((i : Int)).toNat * 1)) = some (.slice y.a y.n y.c) ∧ SlR V y ls[i] := by
  have hn := h.n
  obtain ⟨ad, vs, hx, ha, hc, y, rfl, hy⟩ := h.ld (x := (i : Int)) (by omega) (by omega)
  exact ⟨ad, y, ha, cellsAt_one.1 hc, hy⟩
theorem flat_take {α : Type} {ls : List (List α)} {i : Nat} (hi : i < ls.length) : (ls.take (i + 1)).flatten = (ls.take i).flatten ++ ls[i] := by
  rw [List.take_add_one, List.getElem?_eq_getElem hi, List.flatten_append]; simp
theorem flatten_len {α : Type} : ∀ {ls : List (List α)}, ∀ i, (ls.take i).flatten.length ≤ ls.flatten.length
  | [], i => by simp
  | l :: ls, 0 => by simp
  | l :: ls, i + 1 => by
    have := flatten_len (ls := ls) i
    simp only [List.take_succ_cons, List.flatten_cons, List.length_append]; omega
theorem concat_ok {V : View} {s : Sl} {ls : List (List Ent)} (h : SlR V s ls) (hl : ls.flatten.length ≤ 1000) : CallV Tryd.prog 77 ⟨[.slice s.a s.n s.c]⟩ V fun r V' => ∃ x : Sl, r = .slice x.a x.n x.c ∧ SlR V' x ls.flatten ∧ V.Le V' := by
  refine f77_x ?_
  unfold f77_n
  have hn := h.n; have hlim := h.lim
  refine loop2 (k := .int .i64) (l := .int .i64) (fun (x j : Int) V' => V' = V ∧ ∃ i : Nat, j = i ∧ i ≤ ls.length ∧ x = ((ls.take i).flatten.length : Nat)) (fun _ (j : Int) _ => ls.length - j.toNat) ⟨rfl, 0, rfl, by omega, by simp⟩ ?_
  rintro (x : Int) (j : Int) V1 ⟨rfl, i, rfl, hi, rfl⟩
  refine br_intro (fun hlt => ?_) (fun hge => ?_)
  · have hlt : i < ls.length := by have := of_decide_eq_true hlt; omega
    obtain ⟨ad, y, ha, hc, hy⟩ := h.slN hlt
    have hf := flat_take hlt
    have h1 := flatten_len (ls := ls) (i + 1)
    have hyn := hy.n
    have hf2 := congrArg List.length hf
    rw [List.length_append] at hf2
    refine ⟨by omega, by omega, ad, ha, y, hc, inI64 (by omega) (by omega), joinP_cut (fun _ V' => V' = V1) (br_intro (fun hb => absurd (of_decide_eq_true hb) (by omega)) (fun _ => rfl)) ?_⟩
    rintro ⟨⟩ V2 rfl
    exact ⟨inI64 (by omega) (by omega), ⟨rfl, i + 1, by omega, by omega, by omega⟩, by omega⟩
  · have hge : i = ls.length := by have := of_decide_eq_false hge; omega
    subst hge
    rw [List.take_length]
    refine (grow_ok (by omega) (by omega)).mono ?_
    rintro r V2 ⟨x, rfl, hb, hle⟩
    refine ⟨x, rfl, loop2 (k := .sl) (l := .int .i64) (fun (x : Sl) (j : Int) V' => ∃ i : Nat, j = i ∧ i ≤ ls.length ∧ ∃ cs, Buf V' x 62 (Rep.sz Ent) cs ∧ repL (V'.minus x) cs (ls.take i).flatten ∧ V1.Le (V'.minus x)) (fun _ (j : Int) _ => ls.length - j.toNat) ⟨0, rfl, by omega, [], hb, rfl, hle⟩ ?_⟩
    rintro (x : Sl) (j : Int) V3 ⟨i, rfl, hi, cs, hb3, hr3, hle3⟩
    refine br_intro (fun hlt => ?_) (fun hge => ?_)
    · have hlt : i < ls.length := by have := of_decide_eq_true hlt; omega
      obtain ⟨ad, y, ha, hc, hy⟩ := (h.mono hle3).slN hlt
      have hf := flat_take hlt
      have h1 := flatten_len (ls := ls) (i + 1)
      have hf2 := congrArg List.length hf
      rw [List.length_append] at hf2
      refine ⟨by omega, by omega, ad, ha, y, (View.minus_le _ _).cell hc, ?_⟩
      refine appRow (α := Ent) rfl hb3 hr3 hy hle3 (by omega) (by omega) fun s V4 cs4 g1 g2 g3 => ⟨inI64 (by omega) (by omega), ⟨i + 1, by omega, by omega, cs4, g1, by rw [hf]; exact g2, g3⟩, by omega⟩
    · have hge : i = ls.length := by have := of_decide_eq_false hge; omega
      subst hge
      rw [List.take_length] at hr3
      exact ⟨x, rfl, hb3.slR hr3 (View.minus_le _ _), hle3.trans (View.minus_le _ _)⟩
/-- What a With or a Without tells. -/
def outE (V : View) (r : Value) (o : Except Int (List Ent)) : Prop := ∃ (x : Sl) (e : Int), r = .tuple ⟨[.slice x.a x.n x.c, .int .i64 e]⟩ ∧ (match o with
  | .ok l => e = 0 ∧ SlR V x l
  | .error c => e = c ∧ SlR (α := Ent) V x [])
theorem tw_split {l : List Ent} {s : ByteArray} {i : Nat} (h1 : ∀ e ∈ l.take i, sLess e.name s = true) (h2 : ∀ hi : i < l.length, sLess l[i].name s = false) : l.takeWhile (fun e => sLess e.name s) = l.take i ∧ l.dropWhile (fun e => sLess e.name s) = l.drop i := by
  induction l generalizing i with
  | nil => simp
  | cons e l ih =>
    cases i with
    | zero =>
      have := h2 (by simp)
      have : sLess e.name s = false := this
      rw [List.takeWhile_cons, List.dropWhile_cons, this]; exact ⟨rfl, rfl⟩
    | succ i =>
      have he : sLess e.name s = true := h1 e (by simp)
      obtain ⟨a, b⟩ := ih (i := i) (fun x hx => h1 x (by simp [hx])) (fun hi => h2 (by simpa using hi))
      rw [List.takeWhile_cons, List.dropWhile_cons, he]
      exact ⟨by simp [a], by simp [b]⟩
theorem with_ok {V : View} {x : Sl} {l : List Ent} {s : ByteArray} {i : Int} (h : SlR V x l) (hs : s.size ≤ 9223372036854775807) (hi : inI .i64 i) : CallV Tryd.prog 65 ⟨[.slice x.a x.n x.c, .string s, .int .i64 i]⟩ V fun r V' => outE V' r (withE l ⟨s, i⟩) ∧ V.Le V' := by
  refine f65_x ?_
  unfold f65_n
  have hn := h.n; have hc := h.c
  intro _
  refine joinP_cut (fun q V' => V' = V ∧ q.1 = !(mayL l && soleE ⟨s, i⟩)) ((mayL_ok h).mono ?_) ?_
  · rintro r V1 ⟨rfl, rfl⟩
    refine ⟨_, rfl, br_intro (fun hb => ⟨rfl, by rw [not_t hb]; rfl⟩) (fun hb => (sole_ok (x := ⟨s, i⟩) hs).mono ?_)⟩
    rintro r V2 ⟨rfl, rfl⟩
    exact ⟨_, rfl, rfl, by rw [not_f hb]; rfl⟩
  rintro ⟨q, ⟨⟩⟩ V1 ⟨rfl, hq⟩
  dsimp only [unc] at *
  unfold withE
  refine br_intro (fun hb => ?_) (fun hb => ?_)
  · rw [hq] at hb
    rw [if_neg (by rw [not_t hb]; decide)]
    exact ⟨⟨⟨none, 0, 0⟩, 1, rfl, rfl, SlR.nil _ _ _⟩, View.Le.refl _⟩
  have hM : (mayL l && soleE ⟨s, i⟩) = true := by rw [hq] at hb; exact not_f hb
  have hM1 : mayL l = true := by rw [Bool.and_eq_true] at hM; exact hM.1
  have hlen := mayL_len hM1
  rw [if_pos hM]
  refine (place_ok h).mono ?_
  rintro r V2 ⟨rfl, hV2⟩
  refine ⟨_, rfl, ?_⟩
  rw [idx_has]
  refine br_intro (fun hb => ?_) (fun hb => ?_)
  · rw [if_pos hb]
    exact ⟨⟨⟨none, 0, 0⟩, 9, rfl, rfl, SlR.nil _ _ _⟩, hV2⟩
  rw [if_neg (by rw [hb]; decide)]
  refine br_intro (fun hb => ?_) (fun hb => ?_)
  · rw [if_pos (show 10 ≤ l.length by have := of_decide_eq_true hb; omega)]
    exact ⟨⟨⟨none, 0, 0⟩, 14, rfl, rfl, SlR.nil _ _ _⟩, hV2⟩
  rw [if_neg (show ¬ 10 ≤ l.length by have := of_decide_eq_false hb; omega)]
  refine loop1 (k := .int .i64) (fun (y : Int) V' => V' = V2 ∧ 0 ≤ y ∧ y ≤ l.length ∧ ∀ e ∈ l.take y.toNat, sLess e.name s = true) (fun (y : Int) _ => l.length - y.toNat) ⟨rfl, by omega, by omega, by simp⟩ ?_
  rintro (y : Int) V3 ⟨rfl, h0, h1, h2⟩
  refine joinP_cut (fun q V' => V' = V3 ∧ ((q.1 = true ∧ ∃ hx : y.toNat < l.length, sLess l[y.toNat].name s = true) ∨ (q.1 = false ∧ ∀ hx : y.toNat < l.length, sLess l[y.toNat].name s = false))) (br_intro (fun hlt => ?_) (fun hge => ?_)) ?_
  · have hlt : y < x.n := by simpa using hlt
    obtain ⟨ad, hx, ha, hcc, _⟩ := (h.mono hV2).ent h0 hlt
    refine ⟨h0, hlt, ad, ha, l[y.toNat].name, hcc 0 _ rfl, rfl, ?_⟩
    · cases hq : sLess l[y.toNat].name s with
      | true => exact .inl ⟨rfl, hx, hq⟩
      | false => exact .inr ⟨rfl, fun _ => hq⟩
  · have hge : ¬ y < x.n := by simpa using hge
    exact ⟨rfl, .inr ⟨rfl, fun hx => by omega⟩⟩
  · rintro ⟨q, ⟨⟩⟩ V4 ⟨rfl, hJ⟩
    dsimp only [unc] at *
    refine br_intro (fun hq => ?_) (fun hq => ?_)
    · subst hq
      rcases hJ with ⟨_, hx, hl⟩ | ⟨hf, _⟩
      · refine ⟨inI64 (by omega) (by omega), ⟨rfl, by omega, by omega, ?_⟩, by omega⟩
        rw [show (y + 1).toNat = y.toNat + 1 by omega, List.take_add_one, List.getElem?_eq_getElem hx]
        intro p hp
        rcases List.mem_append.1 hp with hp | hp
        · exact h2 p hp
        · simp at hp; rw [hp]; exact hl
      · cases hf
    · subst hq
      have hl : ∀ hx : y.toNat < l.length, sLess l[y.toNat].name s = false := by
        rcases hJ with ⟨hf, _⟩ | ⟨_, h6⟩
        · cases hf
        · exact h6
      obtain ⟨e1, e2⟩ := tw_split h2 hl
      have h4 := h.mono hV2
      refine ⟨trivial, Int.le_refl _, h0, by omega, h0, by omega, by omega, fun r hr => ?_⟩
      intro r2 hr2
      have f1 := View.see_none_of_ge hr
      have f2 := View.see_none_of_ge hr2
      have p1 := View.put_le (o := .cells ⟨[.string s, .int .i64 i]⟩ 62 (0, 0)) f1
      have hne : r ≠ r2 := by
        rintro rfl
        have : r < (V4.put r (.cells ⟨[.string s, .int .i64 i]⟩ 62 (0, 0))).size := Nat.lt_of_lt_of_le (Nat.lt_succ_self _) (Nat.le_max_right _ _)
        have hr2' : (V4.put r (.cells ⟨[.string s, .int .i64 i]⟩ 62 (0, 0))).size ≤ r := hr2
        omega
      have s1 := h4.sub (i := 0) (j := y.toNat) (Nat.zero_le _) (by omega)
      have s2 : SlR (V4.put r (.cells ⟨[.string s, .int .i64 i]⟩ 62 (0, 0))) ⟨some ⟨r, 0, none⟩, 1, 1⟩ [(⟨s, i⟩ : Ent)] :=
        slR_block (l := [(⟨s, i⟩ : Ent)]) (W := V4) (View.see_put_same _ _ _) ⟨[.string s, .int .i64 i], [], rfl, ⟨rfl, hs, hi⟩, rfl⟩ p1 (show 1 ≤ 140737488355328 by decide)
      have s3 := h4.sub (i := y.toNat) (j := l.length) (by omega) (Nat.le_refl _)
      rw [List.take_length] at s3
      rw [List.drop_zero] at s1
      have p2 := View.put_le (o := .cells ⟨[.slice (if x.c = 0 then x.a else x.a.map fun q => q.add 0) (y.toNat - 0) (x.c - 0), .slice (some ⟨r, 0, none⟩) 1 1, .slice (if x.c = y.toNat then x.a else x.a.map fun q => q.add (y.toNat * 2)) ((x.n : Int).toNat - y.toNat) (x.c - y.toNat)]⟩ 35 (0, 0)) f2
      have hall : SlR (V4.put r (.cells ⟨[.string s, .int .i64 i]⟩ 62 (0, 0)) |>.put r2 (.cells ⟨[.slice (if x.c = 0 then x.a else x.a.map fun q => q.add 0) (y.toNat - 0) (x.c - 0), .slice (some ⟨r, 0, none⟩) 1 1, .slice (if x.c = y.toNat then x.a else x.a.map fun q => q.add (y.toNat * 2)) ((x.n : Int).toNat - y.toNat) (x.c - y.toNat)]⟩ 35 (0, 0))) ⟨some ⟨r2, 0, none⟩, 3, 3⟩ [l.take y.toNat, [(⟨s, i⟩ : Ent)], l.drop y.toNat] := by
        refine slR_block (l := [l.take y.toNat, [(⟨s, i⟩ : Ent)], l.drop y.toNat]) (View.see_put_same _ _ _) (W := V4.put r (.cells ⟨[.string s, .int .i64 i]⟩ 62 (0, 0))) ?_ p2 (show 3 ≤ 140737488355328 by decide)
        refine ⟨[_], [_, _], rfl, ⟨_, rfl, s1.mono p1⟩, [_], [_], rfl, ⟨_, rfl, s2⟩, [_], [], rfl, ⟨⟨if x.c = y.toNat then x.a else x.a.map fun q => q.add (y.toNat * 2), (x.n : Int).toNat - y.toNat, x.c - y.toNat⟩, rfl, ?_⟩, rfl⟩
        rw [show (x.n : Int).toNat = l.length by omega]
        exact s3.mono p1
      have ef : insE l ⟨s, i⟩ = [l.take y.toNat, [(⟨s, i⟩ : Ent)], l.drop y.toNat].flatten := by
        unfold insE
        dsimp only
        rw [e1, e2]; simp
      refine (concat_ok hall (by rw [← ef]; unfold insE; dsimp only; rw [e1, e2]; simp; omega)).mono ?_
      rintro r3 V5 ⟨z, rfl, hz, hV5⟩
      refine ⟨z, rfl, ⟨z, 0, rfl, rfl, by rw [ef]; exact hz⟩, (hV2.trans p1).trans (p2.trans hV5)⟩
theorem without_ok {V : View} {x : Sl} {l : List Ent} {s : ByteArray} (h : SlR V x l) : CallV Tryd.prog 64 ⟨[.slice x.a x.n x.c, .string s]⟩ V fun r V' => outE V' r (withoutE l s) ∧ V.Le V' := by
  refine f64_x ?_
  unfold f64_n
  have hn := h.n; have hc := h.c
  refine (mayL_ok h).mono ?_
  rintro r V1 ⟨rfl, rfl⟩
  unfold withoutE
  refine ⟨_, rfl, br_intro (fun hb => ?_) (fun hb => ?_)⟩
  · rw [if_neg (by rw [not_t hb]; decide)]
    exact ⟨⟨⟨none, 0, 0⟩, 1, rfl, rfl, SlR.nil _ _ _⟩, View.Le.refl _⟩
  have hM := not_f hb
  have hlen := mayL_len hM
  rw [if_pos hM]
  refine (place_ok h).mono ?_
  rintro r V2 ⟨rfl, hV2⟩
  have hi := idx_has l s
  have hidx := idxI_find (fun e : Ent => decide (e.name = s)) l
  generalize hx : idxI (fun e : Ent => decide (e.name = s)) l = y at *
  refine ⟨_, rfl, br_intro (fun hb => ?_) (fun hb => ?_)⟩
  · rw [decide_eq_false (by have := of_decide_eq_true hb; omega)] at hi
    rw [if_neg (by rw [← hi]; decide)]
    exact ⟨⟨⟨none, 0, 0⟩, 8, rfl, rfl, SlR.nil _ _ _⟩, hV2⟩
  · have hb := of_decide_eq_false hb
    rw [decide_eq_true (by omega)] at hi
    rw [if_pos hi.symm]
    obtain ⟨k, hk, rfl, hf⟩ : ∃ i, ∃ h : i < l.length, y = (i : Int) ∧ l.find? (fun e => decide (e.name = s)) = some l[i] := by
      rcases hidx with ⟨h1, _⟩ | h1
      · omega
      · exact h1
    have hname : l[k].name = s := by simpa using List.find?_some hf
    have ecut := cut_erase hk (mayL_pair hM) hname
    refine ⟨trivial, Int.le_refl _, by omega, by omega, inI64 (by omega) (by omega), by omega, by omega, by omega, fun r hr => ?_⟩
    have f1 := View.see_none_of_ge hr
    have h4 := h.mono hV2
    have s1 := h4.sub (i := 0) (j := k) (Nat.zero_le _) (by omega)
    have s3 := h4.sub (i := k + 1) (j := l.length) (by omega) (Nat.le_refl _)
    rw [List.take_length] at s3
    rw [List.drop_zero] at s1
    have e1 : ((k : Int) + 1).toNat = k + 1 := by omega
    have e2 : ((k : Int)).toNat = k := by omega
    have e3 : (x.n : Int).toNat = l.length := by omega
    rw [e1, e2, e3]
    have p2 := View.put_le (o := .cells ⟨[.slice (if x.c = 0 then x.a else x.a.map fun q => q.add 0) (k - 0) (x.c - 0), .slice (if x.c = k + 1 then x.a else x.a.map fun q => q.add ((k + 1) * 2)) (l.length - (k + 1)) (x.c - (k + 1))]⟩ 35 (0, 0)) f1
    have hall : SlR (V2.put r (.cells ⟨[.slice (if x.c = 0 then x.a else x.a.map fun q => q.add 0) (k - 0) (x.c - 0), .slice (if x.c = k + 1 then x.a else x.a.map fun q => q.add ((k + 1) * 2)) (l.length - (k + 1)) (x.c - (k + 1))]⟩ 35 (0, 0))) ⟨some ⟨r, 0, none⟩, 2, 2⟩ [l.take k, l.drop (k + 1)] := by
      refine slR_block (l := [l.take k, l.drop (k + 1)]) (View.see_put_same _ _ _) (W := V2) ?_ p2 (show 2 ≤ 140737488355328 by decide)
      exact ⟨[_], [_], rfl, ⟨_, rfl, s1⟩, [_], [], rfl, ⟨_, rfl, s3⟩, rfl⟩
    have ef : cutE l s = [l.take k, l.drop (k + 1)].flatten := by rw [ecut]; simp
    refine (concat_ok hall (by rw [← ef]; have := cut_len l s; omega)).mono ?_
    rintro r3 V5 ⟨z, rfl, hz, hV5⟩
    exact ⟨z, rfl, ⟨z, 0, rfl, rfl, by rw [ef]; exact hz⟩, hV2.trans (p2.trans hV5)⟩
end Go.Proofs.YtdlgpolngnkiaaaDoor

/- Rows of entries: one more, one less. No program in this text. -/
namespace Go.Proofs.YtdlgpolngnkiaaaDoor
open Go
theorem sLess_tot {a b : ByteArray} (h : sLess a b = false) (hne : a ≠ b) : sLess b a = true := by
  have := bytesLess_tri a.data.toList b.data.toList
  unfold sLess at h ⊢
  rw [h] at this
  have hb : (a.data.toList == b.data.toList) = false := by
    rw [beq_eq_false_iff_ne]
    intro e; exact hne (bl_inj e)
  rw [hb] at this
  cases hq : Op.bytesLess b.data.toList a.data.toList with
  | true => rfl
  | false => rw [hq] at this; cases this
theorem mayL_iff {l : List Ent} : mayL l = true ↔ (∀ e ∈ l, soleE e = true) ∧ (l.Pairwise fun a b => sLess a.name b.name = true) ∧ l.length ≤ 10 := by
  constructor
  · intro h
    refine ⟨fun e he => ?_, ?_, mayL_len h⟩
    · have := mayL_node h he
      unfold soleE
      rw [this.2.2, decide_eq_true this.1, decide_eq_true this.2.1]; rfl
    · rw [List.pairwise_iff_getElem]
      intro i j hi hj hij
      have := mayL_less h (j - i - 1) i (by omega)
      rw [show i + (j - i - 1) + 1 = j by omega, getD_at hi, getD_at hj] at this
      exact this
  · rintro ⟨h1, h2, h3⟩
    unfold mayL
    rw [decide_eq_true h3, Bool.and_true, List.all_eq_true]
    intro i hi
    have hi := List.mem_range.1 hi
    unfold okE
    rw [getD_at hi, h1 _ (List.getElem_mem hi), Bool.true_and, Bool.or_eq_true, decide_eq_true_eq]
    by_cases h0 : i = 0
    · exact .inl h0
    · right
      rw [getD_at (by omega)]
      exact List.pairwise_iff_getElem.1 h2 (i - 1) i (by omega) hi (by omega)
theorem mayL_cut {l : List Ent} (h : mayL l = true) (s : ByteArray) : mayL (cutE l s) = true := by
  obtain ⟨h1, h2, h3⟩ := mayL_iff.1 h
  exact mayL_iff.2 ⟨fun e he => h1 e (cut_mem.1 he).1, h2.sublist List.filter_sublist, Nat.le_trans (cut_len l s) h3⟩
theorem ins_mem {l : List Ent} {x e : Ent} : e ∈ insE l x ↔ e = x ∨ e ∈ l := by
  unfold insE
  rw [List.mem_append, List.mem_cons]
  have : e ∈ l ↔ e ∈ l.takeWhile (fun e => sLess e.name x.name) ∨ e ∈ l.dropWhile (fun e => sLess e.name x.name) := by
    rw [← List.mem_append, List.takeWhile_append_dropWhile]
  rw [this]
  constructor
  · rintro (h | h | h)
    · exact .inr (.inl h)
    · exact .inl h
    · exact .inr (.inr h)
  · rintro (h | h | h)
    · exact .inr (.inl h)
    · exact .inl h
    · exact .inr (.inr h)
theorem ins_perm (l : List Ent) (x : Ent) : (insE l x).Perm (x :: l) := by
  unfold insE
  refine List.perm_middle.trans ?_
  rw [List.takeWhile_append_dropWhile]
theorem ins_len (l : List Ent) (x : Ent) : (insE l x).length = l.length + 1 := by
  rw [(ins_perm l x).length_eq]; rfl
theorem mem_takeW {α : Type} {p : α → Bool} : ∀ {l : List α} {a : α}, a ∈ l.takeWhile p → p a = true ∧ a ∈ l
  | [], _, h => by cases h
  | x :: l, a, h => by
    rw [List.takeWhile_cons] at h
    split at h
    · rename_i hx
      rcases List.mem_cons.1 h with rfl | h
      · exact ⟨hx, by simp⟩
      · have := mem_takeW h; exact ⟨this.1, by simp [this.2]⟩
    · cases h
theorem mayL_ins {l : List Ent} {x : Ent} (h : mayL l = true) (hx : soleE x = true) (hn : hasE l x.name = false) (hl : l.length < 10) : mayL (insE l x) = true := by
  obtain ⟨h1, h2, h3⟩ := mayL_iff.1 h
  refine mayL_iff.2 ⟨fun e he => ?_, ?_, by rw [ins_len]; omega⟩
  · rcases ins_mem.1 he with rfl | he
    · exact hx
    · exact h1 e he
  · have hn := has_false.1 hn
    have hd : ∀ e ∈ l.dropWhile (fun e => sLess e.name x.name), sLess x.name e.name = true := by
      have key : ∀ m : List Ent, (m.Pairwise fun a b => sLess a.name b.name = true) → (∀ e ∈ m, e.name ≠ x.name) → ∀ e ∈ m.dropWhile (fun e => sLess e.name x.name), sLess x.name e.name = true := by
        intro m
        induction m with
        | nil => intro _ _ e he; cases he
        | cons y m ih =>
          intro hp hne e he
          rw [List.pairwise_cons] at hp
          rw [List.dropWhile_cons] at he
          split at he
          · exact ih hp.2 (fun e he => hne e (by simp [he])) e he
          · rename_i hy
            have hy : sLess y.name x.name = false := by simpa using hy
            have hxy := sLess_tot hy (hne y (by simp))
            rcases List.mem_cons.1 he with rfl | he
            · exact hxy
            · exact sLess_trans hxy (hp.1 e he)
      exact key l h2 hn
    unfold insE
    have hsp : (l.takeWhile (fun e => sLess e.name x.name) ++ l.dropWhile (fun e => sLess e.name x.name)).Pairwise fun a b => sLess a.name b.name = true := by
      rw [List.takeWhile_append_dropWhile]; exact h2
    rw [List.pairwise_append] at hsp
    rw [List.pairwise_append]
    refine ⟨hsp.1, ?_, fun a ha b hb => ?_⟩
    · rw [List.pairwise_cons]; exact ⟨hd, hsp.2.1⟩
    · rcases List.mem_cons.1 hb with rfl | hb
      · exact (mem_takeW ha).1
      · exact hsp.2.2 a ha b hb
/-- One more, and it is taken away again. -/
theorem cut_ins {l : List Ent} {x : Ent} (hn : hasE l x.name = false) : cutE (insE l x) x.name = l := by
  have h1 : ∀ m : List Ent, (∀ e ∈ m, e ∈ l) → cutE m x.name = m := fun m hm => cut_none (has_false.2 fun e he => has_false.1 hn e (hm e he))
  unfold insE
  unfold cutE
  rw [List.filter_append, List.filter_cons_of_neg (by simp)]
  have e1 := h1 (l.takeWhile (fun e => sLess e.name x.name)) fun e he => (mem_takeW he).2
  have e2 := h1 (l.dropWhile (fun e => sLess e.name x.name)) fun e he => (List.dropWhile_sublist _).subset he
  unfold cutE at e1 e2
  rw [e1, e2, List.takeWhile_append_dropWhile]
/-- One is taken away, and put back again. -/
theorem ins_cut {l : List Ent} {x : Ent} (h : mayL l = true) (hx : x ∈ l) : insE (cutE l x.name) x = l := by
  obtain ⟨_, h2, _⟩ := mayL_iff.1 h
  obtain ⟨a, b, rfl⟩ := List.append_of_mem hx
  have hp := List.pairwise_append.1 h2
  have hpb := List.pairwise_cons.1 hp.2.1
  have ha : ∀ e ∈ a, sLess e.name x.name = true := fun e he => hp.2.2 e he x (by simp)
  have hb : ∀ e ∈ b, sLess x.name e.name = true := hpb.1
  have ne1 : ∀ e ∈ a, e.name ≠ x.name := fun e he q => by have := ha e he; rw [q, sLess_irr] at this; cases this
  have ne2 : ∀ e ∈ b, e.name ≠ x.name := fun e he q => by have := hb e he; rw [q, sLess_irr] at this; cases this
  have hc : cutE (a ++ x :: b) x.name = a ++ b := by
    unfold cutE
    rw [List.filter_append, List.filter_cons_of_neg (by simp)]
    congr 1
    · rw [List.filter_eq_self]; intro e he; simp [ne1 e he]
    · rw [List.filter_eq_self]; intro e he; simp [ne2 e he]
  have hnb : ∀ e ∈ b, sLess e.name x.name = false := fun e he => by
    cases hq : sLess e.name x.name with
    | false => rfl
    | true => have := sLess_trans hq (hb e he); rw [sLess_irr] at this; cases this
  rw [hc]
  unfold insE
  have t1 : (a ++ b).takeWhile (fun e => sLess e.name x.name) = a := by
    rw [List.takeWhile_append_of_pos (fun e he => ha e he)]
    cases b with
    | nil => simp
    | cons y b => rw [List.takeWhile_cons, hnb y (by simp)]; simp
  have t2 : (a ++ b).dropWhile (fun e => sLess e.name x.name) = b := by
    rw [List.dropWhile_append_of_pos (fun e he => ha e he)]
    cases b with
    | nil => simp
    | cons y b => rw [List.dropWhile_cons, hnb y (by simp)]; simp
  rw [t1, t2]
theorem cut_mayL_len {l : List Ent} {s : ByteArray} (h : mayL l = true) (hs : hasE l s = true) : (cutE l s).length + 1 = l.length := by
  obtain ⟨x, hx, rfl⟩ := has_true.1 hs
  rw [← ins_len, ins_cut h hx]
theorem with_ok_of {l : List Ent} {x : Ent} (h : mayL l = true) (hx : soleE x = true) : withE l x = if hasE l x.name = true then .error 9 else if 10 ≤ l.length then .error 14 else .ok (insE l x) := by
  unfold withE; rw [h, hx]; rfl
theorem without_ok_of {l : List Ent} {s : ByteArray} (h : mayL l = true) (hs : hasE l s = true) : withoutE l s = .ok (cutE l s) := by
  unfold withoutE; rw [if_pos h, if_pos hs]
end Go.Proofs.YtdlgpolngnkiaaaDoor

/- Contracts of calls on names: a tree of one's own behind a pointer. -/
namespace Go.Proofs.YtdlgpolngnkiaaaDoor
open Go
/-- A call that needs nothing of a row of one's own, and only adds to what it needs. -/
theorem CallV.besideG {P : Program} {f : FuncId} {args : Array Value} {V : View} {x : Sl} {e : TypeId} {sz : Nat} {cs : List Value} {K : Value → View → Prop} (hb : Buf V x e sz cs) (h : CallV P f args (V.minus x) fun r U' => K r U' ∧ (V.minus x).Le U') :
    CallV P f args V fun r V' => ∃ U', K r U' ∧ (V.minus x).Le U' ∧ U'.Le (V'.minus x) ∧ V.Le V' := by
  rcases hb.own with ⟨ha, _⟩ | ⟨b, all, ha, hs, _⟩
  · have e1 : ∀ W : View, W.minus x = W := fun W => by unfold View.minus; rw [ha]
    rw [e1] at h
    refine h.mono fun r V' hk => ⟨V', hk.1, by rw [e1]; exact hk.2, by rw [e1]; exact View.Le.refl _, hk.2⟩
  · have e1 : ∀ W : View, W.minus x = W.hide b := fun W => by unfold View.minus; rw [ha]
    rw [e1] at h
    refine (CallV.frameG (View.hide_le V b) h).mono ?_
    rintro r V' ⟨U', hk, h1, h2, h3, h4⟩
    have h5 := h4 b _ (by simp [View.hide]) hs
    refine ⟨U', hk, by rw [e1]; exact h1, ?_, h3⟩
    rw [e1]
    refine ⟨h2.size, fun i o ho => ?_, h2.out⟩
    have hne : i ≠ b := fun e => by rw [e, h5] at ho; cases ho
    rw [hide_see, if_neg hne]; exact h2.see i o ho
/-- A tree of one's own, and the box that holds it. -/
structure BoxT (V0 V : View) (b : Nat) (x : Sl) (t : Tre) : Prop where
  own : OwnT V0 V x t
  box : (V.minus x).see b = some (.cells ⟨[.slice x.a x.n x.c]⟩ 24 (0, 0))
theorem BoxT.mono {V0 V V' : View} {b : Nat} {x : Sl} {t : Tre} (h : BoxT V0 V b x t) (hV : V.Le V') : BoxT V0 V' b x t := ⟨h.own.mono hV, (minus_mono hV x).see _ _ h.box⟩
theorem BoxT.cell {V0 V : View} {b : Nat} {x : Sl} {t : Tre} (h : BoxT V0 V b x t) : V.cell? ((⟨b, 0, none⟩ : Addr).add 0) = some (.slice x.a x.n x.c) := by
  rw [Addr.add_zero]; exact cell_of_see ((View.minus_le _ _).see _ _ h.box) rfl
theorem BoxT.cell0 {V0 V : View} {b : Nat} {x : Sl} {t : Tre} (h : BoxT V0 V b x t) : V.cell? (⟨b, 0, none⟩ : Addr) = some (.slice x.a x.n x.c) := cell_of_see ((View.minus_le _ _).see _ _ h.box) rfl
theorem BoxT.cells {V0 V : View} {b : Nat} {x : Sl} {t : Tre} (h : BoxT V0 V b x t) : cellsAt V (⟨b, 0, none⟩ : Addr) [.slice x.a x.n x.c] := cellsAt_one.2 h.cell0
theorem OwnT.n {V0 V : View} {x : Sl} {t : Tre} (h : OwnT V0 V x t) : x.n = t.length := h.slR.n
theorem box_new {V0 V : View} {x : Sl} {t : Tre} {b : Nat} (h : OwnT V0 V x t) (hb : V.see b = none) :
    canSet (V.put b (.cells ⟨[.slice none 0 0]⟩ 24 (0, 0))) ⟨b, 0, none⟩ 1 ∧ BoxT V0 ((V.put b (.cells ⟨[.slice none 0 0]⟩ 24 (0, 0))).sets ⟨b, 0, none⟩ [.slice x.a x.n x.c]) b x t := by
  refine ⟨canSet_of (View.see_put_same _ _ _) (by simp), ?_⟩
  rw [sets_see (View.see_put_same _ _ _)]
  have hle : V.Le ((V.put b (.cells ⟨[.slice none 0 0]⟩ 24 (0, 0))).put b (.cells ⟨putL [.slice none 0 0] 0 [.slice x.a x.n x.c]⟩ 24 (0, 0))) :=
    ⟨Nat.le_trans (Nat.le_max_left _ _) (Nat.le_max_left _ _), fun i o ho => by
      have hne : i ≠ b := fun e => by rw [e, hb] at ho; cases ho
      rw [View.see_put_ne _ _ hne, View.see_put_ne _ _ hne]; exact ho, rfl⟩
  refine ⟨h.mono hle, ?_⟩
  obtain ⟨cs, hB, _, _⟩ := h
  rcases hB.own with ⟨ha, _⟩ | ⟨r, all, ha, hs, _⟩
  · unfold View.minus; rw [ha]; exact View.see_put_same _ _ _
  · have hne : b ≠ r := fun e => by rw [← e, hb] at hs; cases hs
    unfold View.minus; rw [ha]
    show (View.hide _ r).see b = _
    rw [hide_see, if_neg hne]; exact View.see_put_same _ _ _
/-- What beside a tree of one's own is called leaves it as it is. -/
theorem BoxT.call {P : Program} {f : FuncId} {args : Array Value} {V0 V : View} {b : Nat} {x : Sl} {t : Tre} {K : Value → View → Prop} (h : BoxT V0 V b x t) (hc : CallV P f args (V.minus x) fun r U' => K r U' ∧ (V.minus x).Le U') :
    CallV P f args V fun r V' => ∃ U', K r U' ∧ U'.Le (V'.minus x) ∧ V.Le V' ∧ BoxT V0 V' b x t := by
  obtain ⟨cs, hB, _, _⟩ := h.own
  refine (CallV.besideG hB hc).mono ?_
  rintro r V' ⟨U', h1, _, h2, h3⟩
  exact ⟨U', h1, h2, h3, h.mono h3⟩
/-- A write into the tree leaves the box. -/
theorem BoxT.write {V0 V V' : View} {b : Nat} {x : Sl} {t u : Tre} (h : BoxT V0 V b x t) (hle : (V.minus x).Le (V'.minus x)) (ho : OwnT V0 V' x u) : BoxT V0 V' b x u := ⟨ho, hle.see _ _ h.box⟩
theorem sets_minus {V : View} {x : Sl} {ad : Addr} (ha : x.a = some ad) (k : Nat) (vs : List Value) : (V.minus x).Le ((V.sets (ad.add k) vs).minus x) := by
  unfold View.minus View.sets
  rw [ha, Addr.add_block]
  show (V.hide ad.block).Le (View.hide _ ad.block)
  cases V.see ad.block with
  | some o => exact hide_le_put_hide _ _
  | none => exact View.Le.refl _
theorem inI_pred {k : Int} (h : inI .i64 k) (h0 : 0 ≤ k) : inI .i64 (k - 1) := by
  have h2 : k ≤ 9223372036854775807 := h.2
  exact inI64 (by omega) (by omega)
theorem sets_minus2 {V : View} {x : Sl} {ad : Addr} (ha : x.a = some ad) (k j : Nat) (vs : List Value) : (V.minus x).Le ((V.sets ((ad.add k).add j) vs).minus x) := by
  rw [Addr.add_add]; exact sets_minus ha _ _
theorem with_box {V0 V : View} {b : Nat} {x : Sl} {t : Tre} {l : List Ent} {y : Sl} {s : ByteArray} {i : Int} (h : BoxT V0 V b x t) (hl : SlR (V.minus x) y l) (hs : s.size ≤ 9223372036854775807) (hi : inI .i64 i) :
    CallV Tryd.prog 65 ⟨[.slice y.a y.n y.c, .string s, .int .i64 i]⟩ V fun r V' => ∃ U', outE U' r (withE l ⟨s, i⟩) ∧ U'.Le (V'.minus x) ∧ V.Le V' ∧ BoxT V0 V' b x t := h.call (with_ok hl hs hi)
theorem enters_ok {V0 V : View} {b : Nat} {x : Sl} {t : Tre} {d : Nat} {s : ByteArray} {i j : Int} {o : Except Int (List Ent)} (h : BoxT V0 V b x t) (hd : d < t.length) (hs : s.size ≤ 9223372036854775807) (hi : inI .i64 i) (ho : withE (entsT t d) ⟨s, i⟩ = o) (hc : ∀ c, o = .error c → c ≠ 0) :
    CallV Tryd.prog 42 ⟨[.pointer (some ⟨b, 0, none⟩), .agg ⟨[.int .i64 d, .string s, .int .i64 j]⟩, .int .i64 i]⟩ V fun r V' => (∀ l, o = .ok l → r = .int .i64 0 ∧ BoxT V0 V' b x (entT t d l)) ∧ (∀ c, o = .error c → r = .int .i64 c) ∧ V0.Le V' := by
  refine f42_x ?_
  unfold f42_n
  obtain ⟨ad, sq, en, ha, hcs, hN, _, _, _, hset⟩ := h.own.setC hd
  have hn := h.own.n
  refine fun _ => ⟨trivial, V, View.Le.refl _, _, rfl, x, h.cell, by omega, by omega, ad, ha, en, cellsAt_nth hcs 4 rfl, (with_box h hN.ents hs hi).mono ?_⟩
  rintro r V1 ⟨U, ⟨y, e, rfl, hy⟩, hU, hV1, h1⟩
  have ho' : withE (t.getD d default).ents ⟨s, i⟩ = o := ho
  rw [ho'] at hy
  refine ⟨y, e, rfl, ?_⟩
  obtain ⟨ad', sq', en', ha', hcs', _, _, _, _, hset'⟩ := h1.own.setC hd
  cases o with
  | error c =>
    obtain ⟨rfl, _⟩ := hy
    have := hc e rfl
    refine joinP_cut (fun _ V' => V' = V1) (br_intro (fun h => absurd (of_decide_eq_true h) this) (fun _ => rfl)) ?_
    rintro ⟨⟩ V2 rfl
    exact ⟨fun l h => (by cases h), fun c' h => (by cases h; rfl), h1.own.le⟩
  | ok l =>
    obtain ⟨rfl, hy⟩ := hy
    obtain ⟨a1, a2⟩ := hset' y l _ (hy.mono hU) rfl
    refine joinP_cut (fun _ V' => BoxT V0 V' b x (entT t d l)) (br_intro (fun _ => ⟨trivial, V1, View.Le.refl _, _, rfl, x, h1.cell, by omega, by omega, ad', ha', a1, ?_⟩) (fun h => absurd h (by decide))) ?_
    · exact h1.write (sets_minus2 ha' _ _ _) a2
    · rintro ⟨⟩ V2 h2
      exact ⟨fun l' h => (by cases h; exact ⟨rfl, h2⟩), fun c h => (by cases h), h2.own.le⟩
theorem leaves_ok {V0 V : View} {b : Nat} {x : Sl} {t : Tre} {d : Nat} {s : ByteArray} {j : Int} {l : List Ent} (h : BoxT V0 V b x t) (hd : d < t.length) (ho : withoutE (entsT t d) s = .ok l) :
    CallV Tryd.prog 39 ⟨[.pointer (some ⟨b, 0, none⟩), .agg ⟨[.int .i64 d, .string s, .int .i64 j]⟩]⟩ V fun r V' => r = .tuple ⟨[]⟩ ∧ BoxT V0 V' b x (entT t d l) := by
  refine f39_x ?_
  unfold f39_n
  obtain ⟨ad, sq, en, ha, hcs, hN, _, _, _, hset⟩ := h.own.setC hd
  have hn := h.own.n
  refine fun _ => ⟨trivial, V, View.Le.refl _, _, rfl, x, h.cell, _, rfl, x, h.cell, by omega, by omega, ad, ha, en, cellsAt_nth hcs 4 rfl, (h.call (without_ok hN.ents)).mono ?_⟩
  rintro r V1 ⟨U, ⟨y, e, rfl, hy⟩, hU, hV1, h1⟩
  have ho' : withoutE (t.getD d default).ents s = .ok l := ho
  rw [ho'] at hy
  obtain ⟨rfl, hy⟩ := hy
  obtain ⟨ad', sq', en', ha', hcs', _, _, _, _, hset'⟩ := h1.own.setC hd
  obtain ⟨a1, a2⟩ := hset' y l _ (hy.mono hU) rfl
  exact ⟨y, _, rfl, hV1, by omega, by omega, ad', ha', a1, rfl, h1.write (sets_minus2 ha' _ _ _) a2⟩
theorem zeroN_rep {W : View} : Rep.rep W [.int .i64 0, .int .i64 0, .int .i64 0, .slice none 0 0, .slice none 0 0] Nod.zero := ⟨⟨none, 0, 0⟩, ⟨none, 0, 0⟩, rfl, zero64, zero64, zero64, SlR.nil _ _ _, SlR.nil _ _ _⟩
theorem less_ok {V0 V : View} {b : Nat} {x y : Sl} {t : Tre} {i : Nat} {held : List Bool} (h : BoxT V0 V b x t) (hi : i < t.length) (hl : 0 ≤ (t.getD i default).links) (hy : SlR V0 y held) :
    CallV Tryd.prog 41 ⟨[.pointer (some ⟨b, 0, none⟩), .int .i64 i, .slice y.a y.n y.c]⟩ V fun r V' => r = .tuple ⟨[]⟩ ∧ BoxT V0 V' b x (lessT t i held) := by
  refine f41_x ?_
  unfold f41_n
  obtain ⟨ad, sq, en, ha, hcs, hN, hset, _⟩ := h.own.setC hi
  have hn := h.own.n
  have hyn := hy.n
  refine ⟨_, rfl, x, h.cell, by omega, by omega, ad, ha, _, rfl, _, cellsAt_nth hcs 0 rfl, ?_⟩
  refine joinP_cut (fun _ V' => ∃ t' : Tre, BoxT V0 V' b x t' ∧ t'.length = t.length ∧ t'.set i Nod.zero = lessT t i held) (br_intro (fun hk => ?_) (fun hk => ?_)) ?_
  · have hk : kindT t i = 1 := of_decide_eq_true hk
    have hlim := hN.links
    obtain ⟨a1, a2⟩ := hset ((t.getD i default).links - 1) _ (inI_pred hlim hl) rfl
    have hB1 := h.write (sets_minus2 ha (i * 5) 1 [.int .i64 ((t.getD i default).links - 1)]) a2
    have hi1 : i < (t.set i { t.getD i default with links := (t.getD i default).links - 1 }).length := by simpa using hi
    obtain ⟨ad1, sq1, en1, ha1, hcs1, hN1, _⟩ := hB1.own.setC hi1
    have e1 : (t.set i { t.getD i default with links := (t.getD i default).links - 1 }).getD i default = { t.getD i default with links := (t.getD i default).links - 1 } := by
      rw [getD_at hi1]; simp
    rw [ha] at ha1; cases ha1
    rw [e1] at hcs1
    have hle1 := hB1.own.le
    refine ⟨_, rfl, _, cellsAt_nth hcs 1 rfl, inI_pred hlim hl, _, rfl, a1, ?_⟩
    have hstep : t.set i { t.getD i default with links := (t.getD i default).links - 1 } |>.set i Nod.zero |> (· = t.set i Nod.zero) := List.set_set ..
    refine joinP_cut (fun q V' => BoxT V0 V' b x (t.set i { t.getD i default with links := (t.getD i default).links - 1 }) ∧ q.1 = (decide (0 < (t.getD i default).links - 1) || heldB held i)) ⟨_, rfl, _, cellsAt_nth hcs1 1 rfl, br_intro (fun hp => ⟨hB1, by rw [hp]; rfl⟩) (fun hp => br_intro (fun hlt => ?_) (fun hge => ⟨hB1, ?_⟩))⟩ ?_
    · have hlt := of_decide_eq_true hlt
      obtain ⟨ad3, hx3, ha3, hc3⟩ := (hy.mono hle1).bool (x := (i : Int)) (by omega) (by omega)
      refine ⟨by omega, by omega, ad3, ha3, _, hc3, hB1, ?_⟩
      rw [hp, Bool.false_or]
      unfold heldB
      have e : ((i : Int)).toNat = i := by omega
      rw [List.getD_eq_getElem?_getD, List.getElem?_eq_getElem (by omega)]
      simp only [e]; rfl
    · have hge := of_decide_eq_false hge
      rw [hp, Bool.false_or]
      unfold heldB
      rw [List.getD_eq_getElem?_getD, List.getElem?_eq_none (by omega)]; rfl
    · rintro ⟨q, ⟨⟩⟩ V2 ⟨hB2, hq⟩
      dsimp only [unc] at *
      have hcase : lessT t i held = if q = true then t.set i { t.getD i default with links := (t.getD i default).links - 1 } else t.set i Nod.zero := by
        unfold lessT
        rw [hq]
        by_cases h1 : 0 < (t.getD i default).links - 1 ∨ heldB held i = true
        · rw [if_pos ⟨hk, h1⟩, if_pos (by simpa using h1)]
        · rw [if_neg (fun h => h1 h.2), if_neg (by simpa using h1)]
      refine br_intro (fun hq1 => ⟨rfl, ?_⟩) (fun hq1 => ⟨_, hB2, by simp, ?_⟩)
      · rw [hcase, if_pos hq1]; exact hB2
      · rw [hcase, if_neg (by rw [hq1]; decide)]; exact hstep
  · have hk : ¬ kindT t i = 1 := of_decide_eq_false hk
    refine ⟨t, h, rfl, ?_⟩
    unfold lessT
    rw [if_neg (fun h => hk h.1)]
  · rintro ⟨⟩ V1 ⟨t', h1, hlen, e⟩
    obtain ⟨ad2, ha2, a1, a2⟩ := h1.own.set (i := i) (by omega) (n := Nod.zero) (vs := [.int .i64 0, .int .i64 0, .int .i64 0, .slice none 0 0, .slice none 0 0]) fun _ _ => zeroN_rep
    rw [ha] at ha2; cases ha2
    rw [e] at a2
    exact ⟨_, rfl, a1, rfl, h1.write (sets_minus ha (i * 5) _) a2⟩
end Go.Proofs.YtdlgpolngnkiaaaDoor

/- Contracts of calls on names: what is made, linked, renamed, taken away. -/
namespace Go.Proofs.YtdlgpolngnkiaaaDoor
open Go
theorem lastP_err {s : ByteArray} : (lastP s).2.2 = 0 ∨ (lastP s).2.2 = 7 ∨ (lastP s).2.2 = 18 := by
  unfold lastP
  split
  · right; left; rfl
  · split
    · right; right; rfl
    · left; rfl
theorem par_err {t : Tre} {p : ByteArray} {e : Int} (h : parentT t p = .error e) : e ≠ 0 := by
  unfold parentT at h
  split at h
  · split at h
    · split at h
      · rename_i hf; cases h; exact ends_only hf
      · split at h
        · cases h
        · cases h; decide
    · rename_i h0; cases h; exact h0
  · cases h; decide
theorem free_spec {t : Tre} (hM : mayT t = true) : freeT t = -1 ∨ (1 ≤ freeT t ∧ freeT t < 12 ∧ kindT t (freeT t).toNat = 0) := by
  have h12 := (mayT_all hM).1
  have h0 : kindT t 0 = 2 := (mayT_all hM).2.2.1
  unfold freeT
  rw [if_pos hM]
  rcases idxI_find (fun n : Nod => decide (n.kind = 0)) t with ⟨h1, _⟩ | ⟨i, hi, h1, h2⟩
  · exact .inl h1
  · have hk := List.find?_some h2
    have hk : t[i].kind = 0 := by simpa using hk
    have hk2 : kindT t i = 0 := by unfold kindT; rw [getD_at hi]; exact hk
    right
    rw [h1]
    refine ⟨?_, by omega, by rw [Int.toNat_natCast]; exact hk2⟩
    by_cases hi0 : i = 0
    · subst hi0; omega
    · omega
/-- What a call on names tells. -/
def outT (V V' : View) (r : Value) (o : Except Int Tre) : Prop := (∃ (x : Sl) (e : Int), r = .tuple ⟨[treV x, .int .i64 e]⟩ ∧ (match o with
  | .ok u => e = 0 ∧ SlR V' x u
  | .error c => e = c ∧ c ≠ 0 ∧ SlR (α := Nod) V' x [])) ∧ V.Le V'
theorem none_ok {V0 V : View} {c : Int} (hc : c ≠ 0) (hle : V0.Le V) : CallV Tryd.prog 35 ⟨[.int .i64 c]⟩ V fun r V' => outT V0 V' r (.error c) := by
  refine f35_x ?_
  unfold f35_n
  exact fun _ => ⟨⟨⟨none, 0, 0⟩, c, rfl, rfl, hc, SlR.nil _ _ _⟩, hle⟩
/-- How 'none' is returned. -/
theorem none_ret {V0 V : View} {c : Int} (hc : c ≠ 0) (hle : V0.Le V) {o : Except Int Tre} (ho : o = .error c) : CallV Tryd.prog 35 ⟨[.int .i64 c]⟩ V fun r V => ∃ x : Sl, ∃ e : Int, r = .tuple ⟨[.agg ⟨[.slice x.a x.n x.c]⟩, .int .i64 e]⟩ ∧ outT V0 V (.tuple ⟨[.agg ⟨[.slice x.a x.n x.c]⟩, .int .i64 e]⟩) o := by
  refine (none_ok hc hle).mono ?_
  rintro r V' ⟨⟨x, e, rfl, h⟩, h2⟩
  exact ⟨x, e, rfl, ⟨x, e, rfl, by rw [ho]; exact h⟩, h2⟩
/-- A place that is told. -/
noncomputable def atV (t : Tre) (p : ByteArray) : Value := match parentT t p with
  | .error e => .tuple ⟨[.agg ⟨[.int .i64 0, .string (ba []), .int .i64 0]⟩, .int .i64 e]⟩
  | .ok (d, s) => .tuple ⟨[.agg ⟨[.int .i64 d, .string s, .int .i64 (atI (entsT t d) s)]⟩, .int .i64 0]⟩
theorem at_ok {s : Sl} {t : Tre} {p : ByteArray} {V : View} (h : SlR V s t) (hp : p.size ≤ 9223372036854775807) (hg : Glo V) : CallV Tryd.prog 36 ⟨[treV s, .string p]⟩ V fun r V' => r = atV t p ∧ V.Le V' := by
  refine f36_x ?_
  unfold f36_n
  have hn := h.n
  refine fun _ _ => (dirParent_ok h hp hg).mono ?_
  rintro r V1 ⟨rfl, hV1⟩
  unfold atV
  cases hq : parentT t p with
  | error e =>
    exact ⟨_, _, _, rfl, br_intro (fun _ => ⟨rfl, hV1⟩) (fun h => absurd (of_decide_eq_true (not_f h)) (par_err hq))⟩
  | ok q =>
    obtain ⟨d, n⟩ := q
    obtain ⟨ld, P⟩ := par_of hq
    have hd := P.d12
    have h12 := (mayT_all P.may).1
    obtain ⟨ad, sq, en, ha, hc, hN⟩ := (h.mono hV1).nodN (i := d) (by omega)
    refine ⟨_, _, _, rfl, br_intro (fun h => absurd h (by decide)) (fun _ => ⟨by omega, by omega, ad, ha, en, cellsAt_nth hc 4 rfl, (nameFind_ok hN.ents).mono ?_⟩)⟩
    rintro r V2 ⟨rfl, hV2⟩
    exact ⟨_, rfl, rfl, hV1.trans hV2⟩
/-- A place that must be there. -/
noncomputable def thereV (t : Tre) (p : ByteArray) : Value := match parentT t p with
  | .error e => .tuple ⟨[.agg ⟨[.int .i64 0, .string (ba []), .int .i64 0]⟩, .int .i64 e]⟩
  | .ok (d, s) => .tuple ⟨[.agg ⟨[.int .i64 d, .string s, .int .i64 (atI (entsT t d) s)]⟩, .int .i64 (if atI (entsT t d) s < 0 then 8 else 0)]⟩
theorem there_ok {s : Sl} {t : Tre} {p : ByteArray} {V : View} (h : SlR V s t) (hp : p.size ≤ 9223372036854775807) (hg : Glo V) : CallV Tryd.prog 34 ⟨[treV s, .string p]⟩ V fun r V' => r = thereV t p ∧ V.Le V' := by
  refine f34_x ?_
  unfold f34_n
  refine fun _ _ => (at_ok h hp hg).mono ?_
  rintro r V1 ⟨rfl, hV1⟩
  unfold atV thereV
  cases hq : parentT t p with
  | error e =>
    have he := par_err hq
    refine ⟨_, _, _, _, rfl, fun _ => joinP_cut (fun q V' => q.1 = e ∧ V' = V1) (br_intro (fun h => ?_) (fun _ => ⟨rfl, rfl⟩)) ?_⟩
    · rw [decide_eq_false he] at h; cases h
    · rintro ⟨q, ⟨⟩⟩ V2 ⟨e1, rfl⟩
      dsimp only [unc] at *
      exact ⟨by rw [e1], hV1⟩
  | ok q =>
    obtain ⟨d, n⟩ := q
    refine ⟨_, _, _, _, rfl, fun _ => joinP_cut (fun q V' => q.1 = (if atI (entsT t d) n < 0 then 8 else 0) ∧ V' = V1) (br_intro (fun h => ⟨?_, rfl⟩) (fun h => ⟨?_, rfl⟩)) ?_⟩
    · rw [if_pos (of_decide_eq_true h)]
    · rw [if_neg (of_decide_eq_false h)]
    · rintro ⟨q, ⟨⟩⟩ V2 ⟨e1, rfl⟩
      dsimp only [unc] at *
      exact ⟨by rw [e1], hV1⟩
theorem empty_ok {k : Int} {V : View} : CallV Tryd.prog 44 ⟨[.int .i64 k]⟩ V fun r V' => (∃ s e : Sl, r = nodV (emptyN k) s e ∧ NodR V' s e (emptyN k)) ∧ V.Le V' := by
  refine f44_x ?_
  unfold f44_n
  refine fun _ => br_intro (fun h1 => ⟨by decide, by decide, by decide, by decide, fun r hr => ?_⟩) (fun h1 => br_intro (fun h2 => ?_) (fun h2 => ?_))
  · have h1 : k = 1 := of_decide_eq_true h1
    subst h1
    have hp := View.put_le (o := .cells ⟨(List.replicate 5 [.int .i64 0]).flatten⟩ 3 (0, 0)) (View.see_none_of_ge hr)
    refine ⟨⟨⟨some ⟨r, 0, none⟩, 5, 5⟩, ⟨none, 0, 0⟩, rfl, one64, one64, zero64, ?_, SlR.nil _ _ _⟩, hp⟩
    exact slR_block (l := [0, 0, 0, 0, 0]) (W := V) (View.see_put_same _ _ _) (rows_int (l := [0, 0, 0, 0, 0]) fun n hn => by
      have : n = 0 := by simpa using hn
      rw [this]; exact zero64) hp (show 5 ≤ 140737488355328 by decide)
  · have h2 : k = 2 := of_decide_eq_true h2
    subst h2
    exact ⟨⟨⟨none, 0, 0⟩, ⟨none, 0, 0⟩, rfl, two64, one64, zero64, SlR.nil _ _ _, SlR.nil _ _ _⟩, View.Le.refl _⟩
  · have e : emptyN k = Nod.zero := by
      unfold emptyN
      rw [if_neg (of_decide_eq_false h1), if_neg (of_decide_eq_false h2)]
    rw [e]
    exact ⟨⟨⟨none, 0, 0⟩, ⟨none, 0, 0⟩, rfl, zero64, zero64, zero64, SlR.nil _ _ _, SlR.nil _ _ _⟩, View.Le.refl _⟩
theorem entT_len (t : Tre) (d : Nat) (l : List Ent) : (entT t d l).length = t.length := by unfold entT; simp
theorem mayT_lightT {t : Tre} (h : mayT t = true) : t.length ≤ 1000 ∧ ∀ n ∈ t, LightN n := mayT_light' h
/-- With what is entered, of a tree that may be. -/
theorem with_par {t : Tre} {p s : ByteArray} {ld : List ByteArray} {d : Nat} (P : Par t p ld d s) {i : Int} (h1 : 1 ≤ i) (h2 : i < 12) (hat : ¬ 0 ≤ atI (entsT t d) s) : withE (entsT t d) ⟨s, i⟩ = if 10 ≤ (entsT t d).length then .error 14 else .ok (insE (entsT t d) ⟨s, i⟩) := by
  rw [with_ok_of P.mayL (by unfold soleE; rw [show mayB (⟨s, i⟩ : Ent).name = true from P.sole, decide_eq_true (show 1 ≤ (⟨s, i⟩ : Ent).node from h1), decide_eq_true (show (⟨s, i⟩ : Ent).node < 12 from h2)]; rfl)]
  have := at_has (mayL_pos P.mayL) s
  rw [decide_eq_false hat] at this
  rw [if_neg (by show ¬ hasE (entsT t d) s = true; rw [← this]; decide)]
theorem without_par {t : Tre} {p s : ByteArray} {ld : List ByteArray} {d : Nat} (P : Par t p ld d s) (hat : ¬ atI (entsT t d) s < 0) : withoutE (entsT t d) s = .ok (cutE (entsT t d) s) := by
  have := at_has (mayL_pos P.mayL) s
  rw [decide_eq_true (by omega)] at this
  exact without_ok_of P.mayL this.symm
theorem makes_ok {s : Sl} {t : Tre} {p : ByteArray} {k : Int} {V : View} (h : SlR V s t) (hp : p.size ≤ 9223372036854775807) (hg : Glo V) : CallV Tryd.prog 45 ⟨[treV s, .string p, .int .i64 k]⟩ V fun r V' => outT V V' r (makesT t p k) := by
  refine f45_x ?_
  unfold f45_n
  have hn := h.n
  refine fun _ _ => (at_ok h hp hg).mono ?_
  rintro r V1 ⟨rfl, hV1⟩
  unfold atV
  cases hq : parentT t p with
  | error e =>
    exact ⟨_, _, _, _, rfl, fun _ => br_intro (fun _ => none_ret (par_err hq) hV1 (by unfold makesT; rw [hq])) (fun h => absurd (of_decide_eq_true (not_f h)) (par_err hq))⟩
  | ok q =>
    obtain ⟨d, n⟩ := q
    obtain ⟨ld, P⟩ := par_of hq
    have hd := P.d12
    have h12 := (mayT_all P.may).1
    have hE : makesT t p k = if 0 ≤ atI (entsT t d) n then .error 9 else if freeT t < 0 then .error 14 else if 10 ≤ (entsT t d).length then .error 14 else .ok ((entT t d (insE (entsT t d) ⟨n, freeT t⟩)).set (freeT t).toNat (emptyN k)) := by unfold makesT; rw [hq]
    refine ⟨_, _, _, _, rfl, fun _ => br_intro (fun h => absurd h (by decide)) (fun _ => br_intro (fun h0 => none_ret (by decide) hV1 (by rw [hE, if_pos (of_decide_eq_true h0)])) (fun h0 => ?_))⟩
    have h0 := of_decide_eq_false h0
    rw [if_neg h0] at hE
    refine (free_ok (h.mono hV1)).mono ?_
    rintro r V2 ⟨rfl, hV2⟩
    have q2 := hV1.trans hV2
    refine ⟨_, rfl, br_intro (fun hf => none_ret (by decide) q2 (by rw [hE, if_pos (of_decide_eq_true hf)])) (fun hf => ?_)⟩
    have hf := of_decide_eq_false hf
    rw [if_neg hf] at hE
    obtain ⟨f1, f2, f3⟩ : 1 ≤ freeT t ∧ freeT t < 12 ∧ kindT t (freeT t).toNat = 0 := by
      rcases free_spec P.may with h | h
      · omega
      · exact h
    refine (copyT_ok (h.mono q2) (mayT_lightT P.may)).mono ?_
    rintro r V3 ⟨x, rfl, hO⟩
    refine ⟨x, rfl, fun b hb => ?_⟩
    obtain ⟨b1, b2⟩ := box_new hO hb
    have hlen := P.size
    refine ⟨b1, (enters_ok b2 (d := d) (by omega) (by omega) (inI64 (by omega) (by omega)) (with_par P f1 f2 h0) (fun c hc => ?_)).mono ?_⟩
    · split at hc <;> cases hc; decide
    rintro r V4 ⟨h4, h4e, hle4⟩
    by_cases hfull : 10 ≤ (entsT t d).length
    · rw [if_pos hfull] at hE
      obtain rfl := h4e 14 (if_pos hfull)
      exact ⟨_, rfl, br_intro (fun _ => none_ret (by decide) (q2.trans hle4) hE) (fun h => absurd h (by decide))⟩
    · rw [if_neg hfull] at hE
      obtain ⟨rfl, hb4⟩ := h4 _ (if_neg hfull)
      refine ⟨_, rfl, br_intro (fun h => absurd h (by decide)) (fun _ => ⟨trivial, V4, View.Le.refl _, x, hb4.cell0, (hb4.call empty_ok).mono ?_⟩)⟩
      rintro r V5 ⟨U, ⟨sq, en, rfl, hN⟩, hU, hV5, h5⟩
      have hn5 := h5.own.n
      rw [entT_len] at hn5
      obtain ⟨ad, ha, c1, c2⟩ := h5.own.set (i := (freeT t).toNat) (by rw [entT_len]; omega) (n := emptyN k) (vs := [.int .i64 (emptyN k).kind, .int .i64 (emptyN k).links, .int .i64 (emptyN k).size, .slice sq.a sq.n sq.c, .slice en.a en.n en.c]) fun _ _ => (hN.mono hU).rep
      have h6 := h5.write (sets_minus ha ((freeT t).toNat * 5) _) c2
      rw [hE]
      exact ⟨_, _, _, sq, en, rfl, hV5, by omega, by omega, ad, ha, c1, x, h6.cells, ⟨x, 0, rfl, rfl, h6.own.slR⟩, q2.trans h6.own.le⟩
theorem create_ok {s : Sl} {t : Tre} {p : ByteArray} {V : View} (h : SlR V s t) (hp : p.size ≤ 9223372036854775807) (hg : Glo V) : CallV Tryd.prog 17 ⟨[treV s, .string p]⟩ V fun r V' => outT V V' r (makesT t p 1) := by
  refine f17_x ?_
  unfold f17_n
  refine fun _ _ => (makes_ok h hp hg).mono ?_
  rintro r V1 ⟨⟨x, e, rfl, h1⟩, h2⟩
  exact ⟨x, e, rfl, ⟨x, e, rfl, h1⟩, h2⟩
theorem mkdir_ok {s : Sl} {t : Tre} {p : ByteArray} {V : View} (h : SlR V s t) (hp : p.size ≤ 9223372036854775807) (hg : Glo V) : CallV Tryd.prog 20 ⟨[treV s, .string p]⟩ V fun r V' => outT V V' r (makesT t p 2) := by
  refine f20_x ?_
  unfold f20_n
  refine fun _ _ => (makes_ok h hp hg).mono ?_
  rintro r V1 ⟨⟨x, e, rfl, h1⟩, h2⟩
  exact ⟨x, e, rfl, ⟨x, e, rfl, h1⟩, h2⟩
end Go.Proofs.YtdlgpolngnkiaaaDoor

/- Contracts of calls on names: unlinked, linked, renamed, dropped. -/
namespace Go.Proofs.YtdlgpolngnkiaaaDoor
open Go
theorem entT_at {t : Tre} {d i : Nat} {l : List Ent} (h : i ≠ d) : (entT t d l).getD i default = t.getD i default := by
  unfold entT
  rw [List.getD_eq_getElem?_getD, List.getElem?_set_ne (fun e => h e.symm), ← List.getD_eq_getElem?_getD]
theorem entT_same {t : Tre} {d : Nat} {l : List Ent} (h : d < t.length) : (entT t d l).getD d default = { t.getD d default with ents := l } := by
  rw [getD_at (by rw [entT_len]; exact h)]
  unfold entT
  rw [List.getElem_set_self]
theorem at_kind {t : Tre} (hM : mayT t = true) {d : Nat} {s : ByteArray} (h : ¬ atI (entsT t d) s < 0) : kindT t d = 2 ∧ 1 ≤ atI (entsT t d) s ∧ atI (entsT t d) s < 12 ∧ kindT t (atI (entsT t d) s).toNat ≠ 0 ∧ ∃ e ∈ entsT t d, e.name = s ∧ e.node = atI (entsT t d) s := by
  obtain ⟨e, he, h1, h2⟩ := atI_mem h
  have := (mayF hM).ent he
  rw [← h2]
  exact ⟨this.2.1, this.2.2.1, this.2.2.2.1, this.2.2.2.2.2, e, he, h1, rfl⟩
theorem file_links {t : Tre} (hM : mayT t = true) {i : Nat} (hi : i < 12) : 0 ≤ (t.getD i default).links ∧ (t.getD i default).links ≤ 120 := by
  have h := (mayF hM).at hi
  unfold mayN at h
  split at h
  · simp only [Bool.and_eq_true, decide_eq_true_eq] at h; omega
  · split at h
    · unfold fileB within at h
      simp only [Bool.and_eq_true, decide_eq_true_eq] at h
      exact h.1.1.1.1
    · split at h
      · simp only [Bool.and_eq_true, decide_eq_true_eq] at h; omega
      · cases h
theorem cutd_self {t : Tre} (hM : mayT t = true) {d : Nat} {s : ByteArray} (h : ¬ atI (entsT t d) s < 0) : (atI (entsT t d) s).toNat ≠ d := by
  obtain ⟨_, h1, _, _, e, he, _, h2⟩ := at_kind hM h
  intro hd
  refine (mayF hM).nocycle he ?_
  rw [h2, hd]; exact .refl
theorem thereV_err {t : Tre} {p : ByteArray} {e : Int} (h : parentT t p = .error e) : thereV t p = .tuple ⟨[.agg ⟨[.int .i64 0, .string (ba []), .int .i64 0]⟩, .int .i64 e]⟩ := by
  unfold thereV; rw [h]
theorem thereV_ok {t : Tre} {p s : ByteArray} {d : Nat} (h : parentT t p = .ok (d, s)) : thereV t p = .tuple ⟨[.agg ⟨[.int .i64 d, .string s, .int .i64 (atI (entsT t d) s)]⟩, .int .i64 (if atI (entsT t d) s < 0 then 8 else 0)]⟩ := by
  unfold thereV; rw [h]
theorem atV_err {t : Tre} {p : ByteArray} {e : Int} (h : parentT t p = .error e) : atV t p = .tuple ⟨[.agg ⟨[.int .i64 0, .string (ba []), .int .i64 0]⟩, .int .i64 e]⟩ := by
  unfold atV; rw [h]
theorem atV_ok {t : Tre} {p s : ByteArray} {d : Nat} (h : parentT t p = .ok (d, s)) : atV t p = .tuple ⟨[.agg ⟨[.int .i64 d, .string s, .int .i64 (atI (entsT t d) s)]⟩, .int .i64 0]⟩ := by
  unfold atV; rw [h]
theorem int_nat {a : Int} (h : 1 ≤ a) : Value.int .i64 a = Value.int .i64 ((a.toNat : Nat) : Int) := by congr 1; omega
theorem unlink_ok {s y : Sl} {t : Tre} {p : ByteArray} {held : List Bool} {V : View} (h : SlR V s t) (hy : SlR V y held) (hp : p.size ≤ 9223372036854775807) (hg : Glo V) : CallV Tryd.prog 22 ⟨[treV s, .string p, .slice y.a y.n y.c]⟩ V fun r V' => outT V V' r (unlinkT t p held) := by
  refine f22_x ?_
  unfold f22_n
  have hn := h.n
  refine fun _ _ => (there_ok h hp hg).mono ?_
  rintro r V1 ⟨rfl, hV1⟩
  cases hq : parentT t p with
  | error e =>
    rw [thereV_err hq]
    exact ⟨_, _, _, _, rfl, fun _ => br_intro (fun _ => none_ret (par_err hq) hV1 (by unfold unlinkT; rw [hq])) (fun h => absurd (of_decide_eq_true (not_f h)) (par_err hq))⟩
  | ok q =>
    obtain ⟨d, n⟩ := q
    obtain ⟨ld, P⟩ := par_of hq
    have hd := P.d12
    have h12 := (mayT_all P.may).1
    rw [thereV_ok hq]
    have hE : unlinkT t p held = if atI (entsT t d) n < 0 then .error 8 else if kindT t (atI (entsT t d) n).toNat = 2 then .error 10 else .ok (lessT (entT t d (cutE (entsT t d) n)) (atI (entsT t d) n).toNat held) := by unfold unlinkT; rw [hq]
    by_cases h0 : atI (entsT t d) n < 0
    · rw [if_pos h0] at hE ⊢
      exact ⟨_, _, _, _, rfl, fun _ => br_intro (fun _ => none_ret (by decide) hV1 hE) (fun h => absurd h (by decide))⟩
    rw [if_neg h0] at hE ⊢
    obtain ⟨k0, k1, k2, k3, _⟩ := at_kind P.may h0
    have hne := cutd_self P.may h0
    obtain ⟨ad, sq, en, ha, hc, hN⟩ := (h.mono hV1).nodN (i := (atI (entsT t d) n).toNat) (by omega)
    refine ⟨_, _, _, _, rfl, fun _ => br_intro (fun h => absurd h (by decide)) (fun _ => ⟨by omega, by omega, ad, ha, _, cellsAt_nth hc 0 rfl, br_intro (fun hk => none_ret (by decide) hV1 (by rw [hE, if_pos (of_decide_eq_true hk)])) (fun hk => ?_)⟩)⟩
    rw [if_neg (show ¬ kindT t (atI (entsT t d) n).toNat = 2 from of_decide_eq_false hk)] at hE
    refine (copyT_ok (h.mono hV1) (mayT_lightT P.may)).mono ?_
    rintro r V3 ⟨x, rfl, hO⟩
    refine ⟨x, rfl, fun b hb => ?_⟩
    obtain ⟨b1, b2⟩ := box_new hO hb
    refine ⟨b1, (leaves_ok b2 (d := d) (by omega) (without_par P h0)).mono ?_⟩
    rintro r V4 ⟨rfl, h4⟩
    have hl := file_links P.may (i := (atI (entsT t d) n).toNat) (by omega)
    have e1 := entT_at (t := t) (l := cutE (entsT t d) n) hne
    rw [int_nat k1]
    refine ⟨rfl, (less_ok h4 (i := (atI (entsT t d) n).toNat) (by rw [entT_len]; omega) (by rw [e1]; exact hl.1) (hy.mono hV1)).mono ?_⟩
    rintro r V5 ⟨rfl, h5⟩
    rw [hE]
    exact ⟨rfl, x, h5.cells, ⟨x, 0, rfl, rfl, h5.own.slR⟩, hV1.trans h5.own.le⟩
theorem rmdir_ok {s : Sl} {t : Tre} {p : ByteArray} {V : View} (h : SlR V s t) (hp : p.size ≤ 9223372036854775807) (hg : Glo V) : CallV Tryd.prog 21 ⟨[treV s, .string p]⟩ V fun r V' => outT V V' r (rmdirT t p) := by
  refine f21_x ?_
  unfold f21_n
  have hn := h.n
  refine fun _ _ => (there_ok h hp hg).mono ?_
  rintro r V1 ⟨rfl, hV1⟩
  cases hq : parentT t p with
  | error e =>
    rw [thereV_err hq]
    exact ⟨_, _, _, _, rfl, fun _ => br_intro (fun _ => none_ret (par_err hq) hV1 (by unfold rmdirT; rw [hq])) (fun h => absurd (of_decide_eq_true (not_f h)) (par_err hq))⟩
  | ok q =>
    obtain ⟨d, n⟩ := q
    obtain ⟨ld, P⟩ := par_of hq
    have hd := P.d12
    have h12 := (mayT_all P.may).1
    rw [thereV_ok hq]
    have hE : rmdirT t p = if atI (entsT t d) n < 0 then .error 8 else if kindT t (atI (entsT t d) n).toNat ≠ 2 then .error 11 else if 0 < (entsT t (atI (entsT t d) n).toNat).length then .error 12 else .ok ((entT t d (cutE (entsT t d) n)).set (atI (entsT t d) n).toNat Nod.zero) := by unfold rmdirT; rw [hq]
    by_cases h0 : atI (entsT t d) n < 0
    · rw [if_pos h0] at hE ⊢
      exact ⟨_, _, _, _, rfl, fun _ => br_intro (fun _ => none_ret (by decide) hV1 hE) (fun h => absurd h (by decide))⟩
    rw [if_neg h0] at hE ⊢
    obtain ⟨k0, k1, k2, k3, _⟩ := at_kind P.may h0
    have hne := cutd_self P.may h0
    obtain ⟨ad, sq, en, ha, hc, hN⟩ := (h.mono hV1).nodN (i := (atI (entsT t d) n).toNat) (by omega)
    have hen : en.n = (entsT t (atI (entsT t d) n).toNat).length := hN.ents.n
    refine ⟨_, _, _, _, rfl, fun _ => br_intro (fun h => absurd h (by decide)) (fun _ => ⟨by omega, by omega, ad, ha, _, cellsAt_nth hc 0 rfl, br_intro (fun hk => none_ret (by decide) hV1 (by rw [hE, if_pos (show kindT t (atI (entsT t d) n).toNat ≠ 2 from of_decide_eq_false (not_t hk))])) (fun hk => ⟨by omega, by omega, ad, ha, en, cellsAt_nth hc 4 rfl, br_intro (fun hl => none_ret (by decide) hV1 ?_) (fun hl => ?_)⟩)⟩)⟩
    · have hk : kindT t (atI (entsT t d) n).toNat = 2 := of_decide_eq_true (not_f hk)
      have hl := of_decide_eq_true hl
      rw [hE, if_neg (fun h => h hk), if_pos (show 0 < (entsT t (atI (entsT t d) n).toNat).length by omega)]
    have hk : kindT t (atI (entsT t d) n).toNat = 2 := of_decide_eq_true (not_f hk)
    have hl := of_decide_eq_false hl
    rw [if_neg (fun h => h hk), if_neg (show ¬ 0 < (entsT t (atI (entsT t d) n).toNat).length by omega)] at hE
    refine (copyT_ok (h.mono hV1) (mayT_lightT P.may)).mono ?_
    rintro r V3 ⟨x, rfl, hO⟩
    refine ⟨x, rfl, fun b hb => ?_⟩
    obtain ⟨b1, b2⟩ := box_new hO hb
    refine ⟨b1, (leaves_ok b2 (d := d) (by omega) (without_par P h0)).mono ?_⟩
    rintro r V4 ⟨rfl, h4⟩
    have hl := file_links P.may (i := (atI (entsT t d) n).toNat) (by omega)
    have e1 := entT_at (t := t) (l := cutE (entsT t d) n) hne
    rw [int_nat k1]
    refine ⟨rfl, (less_ok (y := ⟨none, 0, 0⟩) (held := []) h4 (i := (atI (entsT t d) n).toNat) (by rw [entT_len]; omega) (by rw [e1]; exact hl.1) (SlR.nil _ _ _)).mono ?_⟩
    rintro r V5 ⟨rfl, h5⟩
    have e2 : lessT (entT t d (cutE (entsT t d) n)) (atI (entsT t d) n).toNat [] = (entT t d (cutE (entsT t d) n)).set (atI (entsT t d) n).toNat Nod.zero := by
      unfold lessT
      rw [if_neg]
      rintro ⟨h, _⟩
      unfold kindT at h hk
      rw [e1] at h; omega
    rw [e2] at h5
    rw [hE]
    exact ⟨rfl, x, h5.cells, ⟨x, 0, rfl, rfl, h5.own.slR⟩, hV1.trans h5.own.le⟩
theorem link_ok {s : Sl} {t : Tre} {p q : ByteArray} {V : View} (h : SlR V s t) (hp : p.size ≤ 9223372036854775807) (hq' : q.size ≤ 9223372036854775807) (hg : Glo V) : CallV Tryd.prog 18 ⟨[treV s, .string p, .string q]⟩ V fun r V' => outT V V' r (linkT t p q) := by
  refine f18_x ?_
  unfold f18_n
  have hn := h.n
  refine fun _ _ => (dirFind_ok h hp hg).mono ?_
  rintro r V1 ⟨rfl, hV1⟩
  cases hf : findT t p with
  | error e =>
    exact ⟨_, _, rfl, br_intro (fun _ => none_ret (ends_only hf) hV1 (by unfold linkT; rw [hf])) (fun h => absurd (of_decide_eq_true (not_f h)) (ends_only hf))⟩
  | ok i =>
    have hi := findT_range hf
    have hM : mayT t = true := by unfold findT at hf; split at hf; assumption; cases hf
    have h12 := (mayT_all hM).1
    have hE : linkT t p q = if kindT t i = 2 then .error 10 else match parentT t q with
      | .error e => .error e
      | .ok (d, s) => if 0 ≤ atI (entsT t d) s then .error 9 else if 10 ≤ (entsT t d).length then .error 14 else
        .ok ((entT t d (insE (entsT t d) ⟨s, i⟩)).set i { t.getD i default with links := (t.getD i default).links + 1 }) := by unfold linkT; rw [hf] <;> rfl
    obtain ⟨ad, sq, en, ha, hc, hN⟩ := (h.mono hV1).nodN (i := i) (by omega)
    refine ⟨_, _, rfl, br_intro (fun h => absurd h (by decide)) (fun _ => ⟨by omega, by omega, ad, ha, _, cellsAt_nth hc 0 rfl, br_intro (fun hk => none_ret (by decide) hV1 (by rw [hE, if_pos (show kindT t i = 2 from of_decide_eq_true hk)])) (fun hk => ?_)⟩)⟩
    have hk : ¬ kindT t i = 2 := of_decide_eq_false hk
    rw [if_neg hk] at hE
    refine (at_ok (h.mono hV1) hq' (hg.mono hV1)).mono ?_
    rintro r V2 ⟨rfl, hV2⟩
    have q2 := hV1.trans hV2
    cases hr : parentT t q with
    | error e =>
      rw [atV_err hr]
      exact ⟨_, _, _, _, rfl, fun _ => br_intro (fun _ => none_ret (par_err hr) q2 (by rw [hE, hr])) (fun h => absurd (of_decide_eq_true (not_f h)) (par_err hr))⟩
    | ok z =>
      obtain ⟨d, n⟩ := z
      obtain ⟨ld, P⟩ := par_of hr
      have hd := P.d12
      rw [hr] at hE
      dsimp only at hE
      rw [atV_ok hr]
      have hid : i ≠ d := fun e => hk (by rw [e]; exact P.kind)
      have hi0 : i ≠ 0 := fun e => hk (by rw [e]; exact (mayF hM).top)
      refine ⟨_, _, _, _, rfl, fun _ => br_intro (fun h => absurd h (by decide)) (fun _ => br_intro (fun h0 => none_ret (by decide) q2 (by rw [hE, if_pos (of_decide_eq_true h0)])) (fun h0 => ?_))⟩
      have h0 := of_decide_eq_false h0
      rw [if_neg h0] at hE
      refine (copyT_ok (h.mono q2) (mayT_lightT P.may)).mono ?_
      rintro r V3 ⟨x, rfl, hO⟩
      refine ⟨x, rfl, fun b hb => ?_⟩
      obtain ⟨b1, b2⟩ := box_new hO hb
      have hlen := P.size
      refine ⟨b1, (enters_ok b2 (d := d) (i := (i : Int)) (by omega) (by omega) (inI64 (by omega) (by omega)) (with_par P (by omega) (by omega) h0) (fun c hc => ?_)).mono ?_⟩
      · split at hc <;> cases hc; decide
      rintro r V4 ⟨h4, h4e, hle4⟩
      by_cases hfull : 10 ≤ (entsT t d).length
      · rw [if_pos hfull] at hE
        obtain rfl := h4e 14 (if_pos hfull)
        exact ⟨_, rfl, br_intro (fun _ => none_ret (by decide) (q2.trans hle4) hE) (fun h => absurd h (by decide))⟩
      · rw [if_neg hfull] at hE
        obtain ⟨rfl, hb4⟩ := h4 _ (if_neg hfull)
        have hl := file_links hM hi
        obtain ⟨ad5, sq5, en5, ha5, hc5, hN5, hset, _⟩ := hb4.own.setC (i := i) (by rw [entT_len]; omega)
        have hn5 := hb4.own.n
        rw [entT_len] at hn5
        have e1 := entT_at (t := t) (l := insE (entsT t d) ⟨n, (i : Int)⟩) hid
        rw [e1] at hc5 hset
        obtain ⟨c1, c2⟩ := hset ((t.getD i default).links + 1) _ (inI64 (by omega) (by omega)) rfl
        have h6 := hb4.write (sets_minus2 ha5 (i * 5) 1 _) c2
        rw [hE]
        exact ⟨_, rfl, br_intro (fun h => absurd h (by decide)) (fun _ => ⟨x, hb4.cell0, by omega, by omega, ad5, ha5, _, cellsAt_nth hc5 1 rfl, inI64 (by omega) (by omega), by omega, by omega, ad5, ha5, c1, x, h6.cells, ⟨x, 0, rfl, rfl, h6.own.slR⟩, q2.trans h6.own.le⟩)⟩
theorem drop_ok {s : Sl} {t : Tre} {i : Int} {V : View} (h : SlR V s t) : CallV Tryd.prog 26 ⟨[treV s, .int .i64 i]⟩ V fun r V' => outT V V' r (dropT t i) := by
  refine f26_x ?_
  unfold f26_n
  have hn := h.n
  refine fun _ _ => (mayT_ok h).mono ?_
  rintro r V1 ⟨rfl, hV1⟩
  refine ⟨_, rfl, br_intro (fun hb => none_ret (by decide) hV1 (by unfold dropT; rw [if_neg (by rw [not_t hb]; decide)])) (fun hb => ?_)⟩
  have hM := not_f hb
  have h12 := (mayT_all hM).1
  have hE : dropT t i = if 0 ≤ i ∧ i < 12 ∧ kindT t i.toNat = 1 ∧ (t.getD i.toNat default).links ≤ 0 then .ok (t.set i.toNat Nod.zero) else .error 18 := by unfold dropT; rw [if_pos hM]
  refine joinP_cut (fun q V' => V' = V1 ∧ q.1 = !decide (0 ≤ i ∧ i < 12 ∧ kindT t i.toNat = 1 ∧ (t.getD i.toNat default).links ≤ 0)) (br_intro (fun hr => ⟨rfl, ?_⟩) (fun hr => ?_)) ?_
  · rw [decide_eq_false]; · rfl
    rintro ⟨h0, h1, _⟩
    rw [decide_eq_false (by omega), decide_eq_false (by omega)] at hr; cases hr
  · have h0 : 0 ≤ i := by
      rcases Int.lt_or_le i 0 with h | h
      · rw [decide_eq_true h] at hr; cases hr
      · exact h
    rw [decide_eq_false (by omega)] at hr
    have h1 : i < 12 := by have := of_decide_eq_false hr; omega
    obtain ⟨ad, sq, en, ha, hc, hN⟩ := (h.mono hV1).nodN (i := i.toNat) (by omega)
    refine ⟨h0, by omega, ad, ha, _, cellsAt_nth hc 0 rfl, br_intro (fun hk => ⟨rfl, ?_⟩) (fun hk => ⟨h0, by omega, ad, ha, _, cellsAt_nth hc 1 rfl, rfl, ?_⟩)⟩
    · have hk : ¬ kindT t i.toNat = 1 := of_decide_eq_false (not_t hk)
      rw [decide_eq_false (fun h => hk h.2.2.1)]; rfl
    · have hk : kindT t i.toNat = 1 := of_decide_eq_true (not_f hk)
      by_cases hl : 0 < (t.getD i.toNat default).links
      · rw [decide_eq_false (show ¬ (0 ≤ i ∧ i < 12 ∧ kindT t i.toNat = 1 ∧ (t.getD i.toNat default).links ≤ 0) from fun h => by have := h.2.2.2; omega)]; exact decide_eq_true hl
      · rw [decide_eq_true (show 0 ≤ i ∧ i < 12 ∧ kindT t i.toNat = 1 ∧ (t.getD i.toNat default).links ≤ 0 from ⟨h0, h1, hk, by omega⟩)]; exact decide_eq_false hl
  · rintro ⟨q, ⟨⟩⟩ V2 ⟨rfl, hq⟩
    dsimp only [unc] at *
    refine br_intro (fun hb => none_ret (by decide) hV1 ?_) (fun hb => ?_)
    · rw [hq] at hb
      rw [hE, if_neg (of_decide_eq_false (not_t hb))]
    · rw [hq] at hb
      have hc := of_decide_eq_true (not_f hb)
      rw [if_pos hc] at hE
      refine (copyT_ok (h.mono hV1) (mayT_lightT hM)).mono ?_
      rintro r V3 ⟨x, rfl, hO⟩
      have hxn := hO.n
      obtain ⟨ad2, ha2, a1, a2⟩ := hO.set (i := i.toNat) (by omega) (n := Nod.zero) (vs := [.int .i64 0, .int .i64 0, .int .i64 0, .slice none 0 0, .slice none 0 0]) fun _ _ => zeroN_rep
      rw [hE]
      exact ⟨x, rfl, fun _ => ⟨by omega, by omega, ad2, ha2, a1, ⟨x, 0, rfl, rfl, a2.slR⟩, hV1.trans a2.le⟩⟩
end Go.Proofs.YtdlgpolngnkiaaaDoor

/- Contract of Rename. -/
namespace Go.Proofs.YtdlgpolngnkiaaaDoor
open Go
theorem entT_ents {t : Tre} {d j : Nat} {l : List Ent} (h : d < t.length) : entsT (entT t d l) j = if j = d then l else entsT t j := by
  unfold entsT
  by_cases e : j = d
  · subst e; rw [if_pos rfl, entT_same h]
  · rw [if_neg e, entT_at e]
theorem lessT_at {t : Tre} {i j : Nat} {held : List Bool} (h : j ≠ i) : (lessT t i held).getD j default = t.getD j default := by
  unfold lessT
  split
  · rw [List.getD_eq_getElem?_getD, List.getElem?_set_ne (fun e => h e.symm), ← List.getD_eq_getElem?_getD]
  · rw [List.getD_eq_getElem?_getD, List.getElem?_set_ne (fun e => h e.symm), ← List.getD_eq_getElem?_getD]
theorem lessT_len (t : Tre) (i : Nat) (held : List Bool) : (lessT t i held).length = t.length := by
  unfold lessT; split <;> simp
theorem has_cut {l : List Ent} {s r : ByteArray} (h : s ≠ r) : hasE (cutE l s) r = hasE l r := by
  rw [Bool.eq_iff_iff, has_true, has_true]
  constructor
  · rintro ⟨e, he, h1⟩; exact ⟨e, (cut_mem.1 he).1, h1⟩
  · rintro ⟨e, he, h1⟩; exact ⟨e, cut_mem.2 ⟨he, fun h2 => h (h2.symm.trans h1)⟩, h1⟩
theorem has_of_at {t : Tre} {p s : ByteArray} {ld : List ByteArray} {d : Nat} (P : Par t p ld d s) : hasE (entsT t d) s = decide (0 ≤ atI (entsT t d) s) := (at_has (mayL_pos P.mayL) s).symm
/-- The entries behind the first step. -/
def E1 (t : Tre) (d : Nat) (n : ByteArray) (f : Nat) : List Ent := if f = d then cutE (entsT t d) n else entsT t f
theorem E1_may {t : Tre} {p q n r : ByteArray} {ld lf : List ByteArray} {d f : Nat} (P : Par t p ld d n) (Q : Par t q lf f r) : mayL (E1 t d n f) = true := by
  unfold E1; split
  · exact mayL_cut P.mayL n
  · exact Q.mayL
theorem E1_has {t : Tre} {p q n r : ByteArray} {ld lf : List ByteArray} {d f : Nat} (_P : Par t p ld d n) (Q : Par t q lf f r) (hne : atI (entsT t f) r ≠ atI (entsT t d) n) : hasE (E1 t d n f) r = decide (0 ≤ atI (entsT t f) r) := by
  unfold E1; split
  · rename_i e; subst e
    rw [has_cut (fun h => hne (by rw [h])), has_of_at Q]
  · exact has_of_at Q
theorem move_ents {t : Tre} {p q n r : ByteArray} {ld lf : List ByteArray} {d f : Nat} (P : Par t p ld d n) (Q : Par t q lf f r) {held : List Bool} (i : Nat) :
    entsT (moveT t d n i f r (atI (entsT t f) r) held) f = if 0 ≤ atI (entsT t f) r then cutE (E1 t d n f) r else E1 t d n f := by
  have h12 := (mayT_all P.may).1
  have hd := P.d12; have hf := Q.d12
  have e1 : entsT (entT t d (cutE (entsT t d) n)) f = E1 t d n f := by rw [entT_ents (by omega)]; rfl
  unfold moveT
  by_cases h : 0 ≤ atI (entsT t f) r
  · rw [if_pos h, if_pos h]
    have hne := cutd_self Q.may (show ¬ atI (entsT t f) r < 0 by omega)
    have : entsT (lessT (entT (entT t d (cutE (entsT t d) n)) f (cutE (entsT (entT t d (cutE (entsT t d) n)) f) r)) (atI (entsT t f) r).toNat held) f = entsT (entT (entT t d (cutE (entsT t d) n)) f (cutE (entsT (entT t d (cutE (entsT t d) n)) f) r)) f := by
      unfold entsT; rw [lessT_at (fun e => hne e.symm)]
    rw [this, entT_ents (by rw [entT_len]; omega), if_pos rfl, e1]
  · rw [if_neg h, if_neg h]; exact e1
theorem move_len (t : Tre) (d : Nat) (n : ByteArray) (i f : Nat) (r : ByteArray) (k : Int) (held : List Bool) : (moveT t d n i f r k held).length = t.length := by
  unfold moveT; split
  · rw [lessT_len, entT_len, entT_len]
  · rw [entT_len]
theorem replaces_ok {a b : Nod} {s e s' e' : Sl} {V : View} (k : NodR V s' e' b) : CallV Tryd.prog 40 ⟨[nodV a s e, nodV b s' e']⟩ V fun r V' => r = .int .i64 (replN a b) ∧ V' = V := by
  refine f40_x ?_
  unfold f40_n
  have hn := k.ents.n
  refine fun _ _ => br_intro (fun h1 => ⟨?_, rfl⟩) (fun h1 => br_intro (fun h2 => ⟨?_, rfl⟩) (fun h2 => br_intro (fun h3 => ⟨?_, rfl⟩) (fun h3 => ⟨?_, rfl⟩)))
  all_goals unfold replN
  · rw [if_pos]
    cases h : decide (a.kind = 2) with
    | false => rw [h] at h1; cases h1
    | true => rw [h] at h1; exact ⟨of_decide_eq_true h, of_decide_eq_false (not_t h1)⟩
  all_goals have h1' : ¬ (a.kind = 2 ∧ b.kind ≠ 2) := (by
    rintro ⟨h, h'⟩
    rw [decide_eq_true h, decide_eq_false h'] at h1; cases h1)
  · rw [if_neg h1', if_pos]
    cases h : decide (a.kind = 2) with
    | true => rw [h] at h2; cases h2
    | false => rw [h] at h2; exact ⟨of_decide_eq_false h, of_decide_eq_true h2⟩
  all_goals have h2' : ¬ (a.kind ≠ 2 ∧ b.kind = 2) := (by
    rintro ⟨h, h'⟩
    rw [decide_eq_false h, decide_eq_true h'] at h2; cases h2)
  · rw [if_neg h1', if_neg h2', if_pos (by have := of_decide_eq_true h3; omega)]
  · rw [if_neg h1', if_neg h2', if_neg (by have := of_decide_eq_false h3; omega)]
theorem rename_ok {s y : Sl} {t : Tre} {p q : ByteArray} {held : List Bool} {V : View} (h : SlR V s t) (hy : SlR V y held) (hp : p.size ≤ 9223372036854775807) (hq' : q.size ≤ 9223372036854775807) (hg : Glo V) : CallV Tryd.prog 13 ⟨[treV s, .string p, .string q, .slice y.a y.n y.c]⟩ V fun r V' => outT V V' r (renameT t p q held) := by
  refine f13_x ?_
  unfold f13_n
  have hn := h.n
  refine fun _ _ => (there_ok h hp hg).mono ?_
  rintro r0 V1 ⟨rfl, hV1⟩
  cases hP : parentT t p with
  | error e =>
    rw [thereV_err hP]
    exact ⟨_, _, _, _, rfl, fun _ => br_intro (fun _ => none_ret (par_err hP) hV1 (by unfold renameT; rw [hP])) (fun h => absurd (of_decide_eq_true (not_f h)) (par_err hP))⟩
  | ok z =>
    obtain ⟨d, n⟩ := z
    obtain ⟨ld, P⟩ := par_of hP
    have hd := P.d12
    have h12 := (mayT_all P.may).1
    rw [thereV_ok hP]
    generalize hi : atI (entsT t d) n = i
    by_cases h0 : i < 0
    · rw [if_pos h0]
      refine ⟨_, _, _, _, rfl, fun _ => br_intro (fun _ => none_ret (by decide) hV1 ?_) (fun h => absurd h (by decide))⟩
      unfold renameT; rw [hP]; dsimp only; rw [if_pos (by rw [hi]; exact h0)]
    rw [if_neg h0]
    obtain ⟨k0, k1, k2, k3, _⟩ := at_kind P.may (d := d) (s := n) (by rw [hi]; exact h0)
    rw [hi] at k1 k2 k3
    refine ⟨_, _, _, _, rfl, fun _ => br_intro (fun h => absurd h (by decide)) (fun _ => (at_ok (h.mono hV1) hq' (hg.mono hV1)).mono ?_)⟩
    rintro r0 V2 ⟨rfl, hV2⟩
    have q2 := hV1.trans hV2
    cases hQ : parentT t q with
    | error e =>
      rw [atV_err hQ]
      refine ⟨_, _, _, _, rfl, fun _ => br_intro (fun _ => none_ret (par_err hQ) q2 ?_) (fun h => absurd (of_decide_eq_true (not_f h)) (par_err hQ))⟩
      unfold renameT; rw [hP]; dsimp only; rw [if_neg (by rw [hi]; exact h0), hQ]
    | ok z =>
      obtain ⟨f, r⟩ := z
      obtain ⟨lf, Q⟩ := par_of hQ
      have hf := Q.d12
      rw [atV_ok hQ]
      have hmv := move_ents P Q (held := held) i.toNat
      have hE1 := E1_has P Q
      have hR : renameT t p q held = if atI (entsT t f) r = i then .ok t else if insideT t i f = true then .error 17 else
          if 0 ≤ atI (entsT t f) r ∧ replN (t.getD i.toNat default) (t.getD (atI (entsT t f) r).toNat default) ≠ 0 then .error (replN (t.getD i.toNat default) (t.getD (atI (entsT t f) r).toNat default)) else
          if 10 ≤ (entsT (moveT t d n i.toNat f r (atI (entsT t f) r) held) f).length then .error 14 else
          .ok (entT (moveT t d n i.toNat f r (atI (entsT t f) r) held) f (insE (entsT (moveT t d n i.toNat f r (atI (entsT t f) r) held) f) ⟨r, i⟩)) := by
        unfold renameT; rw [hP]; dsimp only; rw [hi, if_neg h0, hQ]
      rw [hi] at hE1
      have hkat := Q.at
      have hkk : 0 ≤ atI (entsT t f) r → (atI (entsT t f) r).toNat ≠ f := fun h => cutd_self Q.may (by omega)
      have hmoveE : moveT t d n i.toNat f r (atI (entsT t f) r) held = if 0 ≤ atI (entsT t f) r then lessT (entT (entT t d (cutE (entsT t d) n)) f (cutE (entsT (entT t d (cutE (entsT t d) n)) f) r)) (atI (entsT t f) r).toNat held else entT t d (cutE (entsT t d) n) := rfl
      generalize hk : atI (entsT t f) r = k at *
      refine ⟨_, _, _, _, rfl, fun _ => br_intro (fun h => absurd h (by decide)) (fun _ => br_intro (fun he => ?_) (fun he => ?_))⟩
      · have he := of_decide_eq_true he
        refine (copyT_ok (h.mono q2) (mayT_lightT P.may)).mono ?_
        rintro r0 V3 ⟨x, rfl, hO⟩
        rw [hR, if_pos he]
        exact ⟨x, rfl, ⟨x, 0, rfl, rfl, hO.slR⟩, q2.trans hO.le⟩
      have he := of_decide_eq_false he
      rw [if_neg he] at hR
      refine (inside_ok (h.mono q2)).mono ?_
      rintro r0 V3 ⟨rfl, hV3⟩
      have q3 := q2.trans hV3
      refine ⟨_, rfl, br_intro (fun hin => none_ret (by decide) q3 (by rw [hR, if_pos hin])) (fun hin => ?_)⟩
      rw [if_neg (by rw [hin]; decide)] at hR
      refine (copyT_ok (h.mono q3) (mayT_lightT P.may)).mono ?_
      rintro r0 V4 ⟨x, rfl, hO⟩
      refine ⟨x, rfl, fun b hb => ?_⟩
      obtain ⟨b1, b2⟩ := box_new hO hb
      refine ⟨b1, (leaves_ok b2 (d := d) (by omega) (without_par P (by rw [hi]; exact h0))).mono ?_⟩
      rintro r0 V5 ⟨rfl, h5⟩
      have hnlen := P.size; have hrlen := Q.size
      refine ⟨rfl, ?_⟩
      -- both ways come to a tree moved
      refine joinP_cut (fun _ V' => BoxT V3 V' b x (moveT t d n i.toNat f r k held) ∧ ¬ (0 ≤ k ∧ replN (t.getD i.toNat default) (t.getD k.toNat default) ≠ 0)) (br_intro (fun hk0 => ?_) (fun hk0 => ⟨?_, fun h => (of_decide_eq_false hk0) h.1⟩)) ?_
      · have hk0 := of_decide_eq_true hk0
        have hk12 : 1 ≤ k ∧ k < 12 := by omega
        have hsee := h.mono (q3.trans h5.own.le)
        obtain ⟨ad, sq, en, ha, hc, hN⟩ := hsee.nodN (i := i.toNat) (by omega)
        obtain ⟨ad', sq', en', ha', hc', hN'⟩ := hsee.nodN (i := k.toNat) (by omega)
        refine ⟨trivial, V5, View.Le.refl _, by omega, by omega, ad, ha, _, _, _, sq, en, hc, by omega, by omega, ad', ha', _, _, _, sq', en', hc', (replaces_ok hN').mono ?_⟩
        rintro r0 V6 ⟨rfl, rfl⟩
        refine ⟨_, rfl, br_intro (fun hb => ?_) (fun hb => ?_)⟩
        · have hb := of_decide_eq_false (not_t hb)
          exact none_ret hb (q3.trans h5.own.le) (by rw [hR, if_pos ⟨hk0, hb⟩])
        have hb := of_decide_eq_true (not_f hb)
        have hw : withoutE (entsT (entT t d (cutE (entsT t d) n)) f) r = .ok (cutE (entsT (entT t d (cutE (entsT t d) n)) f) r) := by
          have e1 : entsT (entT t d (cutE (entsT t d) n)) f = E1 t d n f := by rw [entT_ents (by omega)]; rfl
          rw [e1]
          exact without_ok_of (E1_may P Q) (by rw [hE1 he, decide_eq_true hk0])
        refine (leaves_ok h5 (d := f) (by rw [entT_len]; omega) hw).mono ?_
        rintro r0 V7 ⟨rfl, h7⟩
        rw [int_nat hk12.1]
        have hlk : 0 ≤ ((entT (entT t d (cutE (entsT t d) n)) f (cutE (entsT (entT t d (cutE (entsT t d) n)) f) r)).getD k.toNat default).links := by
          rw [entT_at (hkk hk0)]
          by_cases e : k.toNat = d
          · rw [e, entT_same (by omega)]; exact (file_links P.may hd).1
          · rw [entT_at e]; exact (file_links P.may (by omega)).1
        refine ⟨rfl, (less_ok h7 (i := k.toNat) (by rw [entT_len, entT_len]; omega) hlk (hy.mono q3)).mono ?_⟩
        rintro r0 V8 ⟨rfl, h8⟩
        refine ⟨rfl, ?_, fun h => h.2 hb⟩
        rw [hmoveE, if_pos hk0]; exact h8
      · have hk0 := of_decide_eq_false hk0
        rw [hmoveE, if_neg hk0]; exact h5
      · rintro ⟨⟩ V6 ⟨h6, hcond⟩
        rw [if_neg hcond] at hR
        have hmay : mayL (entsT (moveT t d n i.toNat f r k held) f) = true := by
          rw [hmv]; split
          · exact mayL_cut (E1_may P Q) r
          · exact E1_may P Q
        have hhas : hasE (entsT (moveT t d n i.toNat f r k held) f) r = false := by
          rw [hmv]; split
          · exact cut_has _ _
          · rename_i hk0; rw [hE1 he, decide_eq_false hk0]
        have hwith : withE (entsT (moveT t d n i.toNat f r k held) f) ⟨r, i⟩ = if 10 ≤ (entsT (moveT t d n i.toNat f r k held) f).length then .error 14 else .ok (insE (entsT (moveT t d n i.toNat f r k held) f) ⟨r, i⟩) := by
          rw [with_ok_of hmay (by unfold soleE; rw [show mayB (⟨r, i⟩ : Ent).name = true from Q.sole, decide_eq_true (show 1 ≤ (⟨r, i⟩ : Ent).node from k1), decide_eq_true (show (⟨r, i⟩ : Ent).node < 12 from k2)]; rfl)]
          rw [if_neg (by show ¬ hasE _ r = true; rw [hhas]; decide)]
        refine (enters_ok h6 (d := f) (by rw [move_len]; omega) (by omega) (inI64 (by omega) (by omega)) hwith (fun c hc => ?_)).mono ?_
        · split at hc <;> cases hc; decide
        rintro r0 V7 ⟨h7, h7e, hle7⟩
        by_cases hfull : 10 ≤ (entsT (moveT t d n i.toNat f r k held) f).length
        · rw [if_pos hfull] at hR
          obtain rfl := h7e 14 (if_pos hfull)
          exact ⟨_, rfl, br_intro (fun _ => none_ret (by decide) (q3.trans hle7) hR) (fun h => absurd h (by decide))⟩
        · rw [if_neg hfull] at hR
          obtain ⟨rfl, hb7⟩ := h7 _ (if_neg hfull)
          rw [hR]
          exact ⟨_, rfl, br_intro (fun h => absurd h (by decide)) (fun _ => ⟨x, hb7.cells, ⟨x, 0, rfl, rfl, hb7.own.slR⟩, q3.trans hb7.own.le⟩)⟩
end Go.Proofs.YtdlgpolngnkiaaaDoor

/- What comes of a tree that may be may be: plain laws. -/
namespace Go.Proofs.YtdlgpolngnkiaaaDoor
open Go
def cntE (l : List Ent) (x : Int) : Nat := l.countP fun e => decide (e.node = x)
theorem getD_set {t : Tre} {k j : Nat} {n : Nod} (hk : k < t.length) : (t.set k n).getD j default = if j = k then n else t.getD j default := by
  by_cases h : j = k
  · subst h; rw [if_pos rfl, getD_at (by simpa using hk), List.getElem_set_self]
  · rw [if_neg h, List.getD_eq_getElem?_getD, List.getElem?_set_ne (fun e => h e.symm), ← List.getD_eq_getElem?_getD]
theorem named_set {x : Int} : ∀ {t : Tre} {k : Nat} {n : Nod}, k < t.length → namedT (t.set k n) x + cntE (entsT t k) x = namedT t x + cntE n.ents x
  | [], _, _, h => absurd h (by simp)
  | m :: t, 0, n, _ => by
    show namedT (n :: t) x + cntE m.ents x = _
    unfold namedT cntE
    rw [allE_cons, allE_cons, List.countP_append, List.countP_append]; omega
  | m :: t, k + 1, n, h => by
    have ih := named_set (x := x) (t := t) (k := k) (n := n) (by simpa using h)
    show namedT (m :: t.set k n) x + cntE (entsT t k) x = _
    unfold namedT at ih ⊢
    rw [allE_cons, allE_cons, List.countP_append, List.countP_append]; omega
theorem allS_set : ∀ {t : Tre} {k : Nat} {n : Nod}, k < t.length → List.Sublist (n.seqs.filter fun s => decide (s ≠ 0)) ((t.getD k default).seqs.filter fun s => decide (s ≠ 0)) → List.Sublist ((allS (t.set k n)).filter fun s => decide (s ≠ 0)) ((allS t).filter fun s => decide (s ≠ 0))
  | [], _, _, h, _ => absurd h (by simp)
  | m :: t, 0, n, _, hs => by
    have e1 : allS ((m :: t).set 0 n) = n.seqs ++ allS t := by simp [allS]
    have e2 : allS (m :: t) = m.seqs ++ allS t := by simp [allS]
    rw [e1, e2, List.filter_append, List.filter_append]
    exact List.Sublist.append hs (List.Sublist.refl _)
  | m :: t, k + 1, n, h, hs => by
    have ih := allS_set (t := t) (k := k) (n := n) (by simpa using h) (by simpa using hs)
    have e1 : allS ((m :: t).set (k + 1) n) = m.seqs ++ allS (t.set k n) := by simp [allS]
    have e2 : allS (m :: t) = m.seqs ++ allS t := by simp [allS]
    rw [e1, e2, List.filter_append, List.filter_append]
    exact List.Sublist.append (List.Sublist.refl _) ih
theorem apart_set {t : Tre} {k : Nat} {n : Nod} (h : apartL (allS t) = true) (hk : k < t.length) (hs : List.Sublist (n.seqs.filter fun s => decide (s ≠ 0)) ((t.getD k default).seqs.filter fun s => decide (s ≠ 0))) : apartL (allS (t.set k n)) = true := by
  unfold apartL at h ⊢
  exact decide_eq_true ((of_decide_eq_true h).sublist (allS_set hk hs))
theorem mayT_of {t : Tre} (h : MayF t) (ha : apartL (allS t) = true) : mayT t = true := by
  unfold mayT
  simp only [Bool.and_eq_true, decide_eq_true_eq, List.all_eq_true, List.mem_range]
  refine ⟨⟨⟨⟨h.len, h.may⟩, h.top⟩, fun i hi => ?_⟩, ha⟩
  rw [cnt_get 12 (allE t) hi]
  unfold hangB
  rcases kind_of (h.at hi) with hk | hk | hk
  · rw [if_neg (by omega), if_neg (by omega)]
    have := h.none i hi hk
    unfold namedT at this
    rw [this]; rfl
  · rw [if_neg (by omega), if_pos hk]
    exact decide_eq_true (h.file i hi hk)
  · rw [if_pos hk]
    obtain ⟨h1, h2⟩ := h.dir i hi hk
    rw [metB_iff.2 h1, Bool.true_and, Bool.or_eq_true, decide_eq_true_eq, decide_eq_true_eq]
    rcases h2 with h2 | h2
    · left; omega
    · right; unfold namedT at h2; omega
theorem mayT_apart {t : Tre} (h : mayT t = true) : apartL (allS t) = true := (mayT_all h).2.2.2.2
theorem cnt_ins (l : List Ent) (x : Ent) (y : Int) : cntE (insE l x) y = cntE l y + if x.node = y then 1 else 0 := by
  unfold cntE
  rw [(ins_perm l x).countP_eq, List.countP_cons]
  simp only [decide_eq_true_eq]
theorem cnt_cut {l : List Ent} {x : Ent} (h : mayL l = true) (hx : x ∈ l) (y : Int) : cntE l y = cntE (cutE l x.name) y + if x.node = y then 1 else 0 := by
  rw [← cnt_ins, ins_cut h hx]
theorem reach_grow {t u : Tre} (h : ∀ p e, e ∈ entsT t p → ∃ e' ∈ entsT u p, e'.node = e.node) {a b : Nat} (hr : Reach t a b) : Reach u a b := by
  induction hr with
  | refl => exact .refl
  | @step i x _ hx ih =>
    obtain ⟨e', h1, h2⟩ := h i x hx
    rw [← h2]; exact .step ih h1
theorem reach_avoid {t u : Tre} {A : Nat → Prop} (h : ∀ p e, e ∈ entsT t p → ¬ A e.node.toNat → ∃ e' ∈ entsT u p, e'.node = e.node) {a b : Nat} (hr : Reach t a b) (hA : ∀ i, A i → ¬ Reach t i b) : Reach u a b := by
  induction hr with
  | refl => exact .refl
  | @step i x _ hx ih =>
    obtain ⟨e', h1, h2⟩ := h i x hx fun ha => hA _ ha .refl
    rw [← h2]; exact .step (ih fun j hj hr => hA j hj (.step hr hx)) h1
/-- Names are told once. -/
theorem ent_one {t : Tre} (h : MayF t) {d : Nat} {e e' : Ent} (he : e ∈ entsT t d) (he' : e' ∈ entsT t d) (hn : e.name = e'.name) : e = e' := by
  obtain ⟨i, hi, rfl⟩ := List.mem_iff_getElem.1 he
  obtain ⟨j, hj, rfl⟩ := List.mem_iff_getElem.1 he'
  have hp := List.pairwise_iff_getElem.1 (h.pair d)
  rcases Nat.lt_trichotomy i j with h9 | h9 | h9
  · exact absurd hn (hp i j hi hj h9)
  · subst h9; rfl
  · exact absurd hn.symm (hp j i hj hi h9)
theorem zero_of {t : Tre} (h : MayF t) {i : Nat} (hi : i < 12) (hk : kindT t i = 0) : t.getD i default = Nod.zero := by
  have hm := h.at hi
  unfold mayN at hm
  rw [if_pos hk] at hm
  simp only [Bool.and_eq_true, decide_eq_true_eq] at hm
  have hk : (t.getD i default).kind = 0 := hk
  generalize t.getD i default = n at *
  obtain ⟨k, l, z, sq, en⟩ := n
  simp only at hm hk
  have h1 : sq = [] := List.eq_nil_of_length_eq_zero hm.1.2
  have h2 : en = [] := List.eq_nil_of_length_eq_zero hm.2
  rw [hk, hm.1.1.1, hm.1.1.2, h1, h2]; rfl
theorem dir_mayN {n : Nod} {l : List Ent} (h : mayN n = true) (hk : n.kind = 2) (hl : mayL l = true) : mayN { n with ents := l } = true := by
  unfold mayN at h ⊢
  simp only
  rw [if_neg (by omega), if_neg (by omega), if_pos hk] at h ⊢
  simp only [Bool.and_eq_true, decide_eq_true_eq] at h ⊢
  exact ⟨h.1, hl⟩
theorem file_mayN {n : Nod} {k : Int} (h : mayN n = true) (hk : n.kind = 1) (h0 : 0 ≤ k) (h1 : k ≤ 120) : mayN { n with links := k } = true := by
  unfold mayN at h ⊢
  simp only
  rw [if_neg (by omega), if_pos hk] at h ⊢
  unfold fileB at h ⊢
  simp only [Bool.and_eq_true, decide_eq_true_eq] at h ⊢
  refine ⟨⟨⟨⟨?_, h.1.1.1.2⟩, h.1.1.2⟩, h.1.2⟩, h.2⟩
  unfold within
  rw [decide_eq_true h0, decide_eq_true h1]; rfl
theorem file_noents {t : Tre} (h : MayF t) {i : Nat} (_hi : i < 12) (hk : kindT t i ≠ 2) : entsT t i = [] := by
  cases he : entsT t i with
  | nil => rfl
  | cons e l => exact absurd (h.ent (i := i) (e := e) (by rw [he]; simp)).2.1 hk
theorem all_at {t : Tre} (h12 : t.length = 12) {P : Nod → Prop} (h : ∀ i, i < 12 → P (t.getD i default)) : ∀ n ∈ t, P n := fun n hn => by
  obtain ⟨i, hi, rfl⟩ := List.mem_iff_getElem.1 hn
  have := h i (by omega)
  rwa [getD_at hi] at this
theorem named_le {t : Tre} (h12 : t.length = 12) (h : ∀ n ∈ t, n.ents.length ≤ 10) (x : Int) : namedT t x ≤ 120 := by
  have h1 := allE_len (t := t) (m := 10) h
  have h2 := List.countP_le_length (p := fun e : Ent => decide (e.node = x)) (l := allE t)
  unfold namedT; omega
/-- A name more of a new node. -/
theorem new_may {t : Tre} (hM : mayT t = true) {d i : Nat} {s : ByteArray} {k : Int} (hk : k = 1 ∨ k = 2) (hd : d < 12) (hkd : kindT t d = 2) (hi : i < 12) (hki : kindT t i = 0) (hs : mayB s = true) (hn : hasE (entsT t d) s = false) (hl : (entsT t d).length < 10) :
    mayT ((entT t d (insE (entsT t d) ⟨s, i⟩)).set i (emptyN k)) = true := by
  have hF := mayF hM
  have h12 := hF.len
  have hi0 : i ≠ 0 := fun e => by rw [e, hF.top] at hki; cases hki
  have hid : i ≠ d := fun e => by rw [e, hkd] at hki; cases hki
  have hz := zero_of hF hi hki
  have hsole : soleE ⟨s, (i : Int)⟩ = true := by
    unfold soleE
    rw [show mayB (⟨s, (i : Int)⟩ : Ent).name = true from hs, decide_eq_true (show 1 ≤ (⟨s, (i : Int)⟩ : Ent).node by show (1 : Int) ≤ i; omega), decide_eq_true (show (⟨s, (i : Int)⟩ : Ent).node < 12 by show (i : Int) < 12; omega)]; rfl
  have hL := mayN_ents (hF.at hd)
  have hL' : mayL (insE (entsT t d) ⟨s, i⟩) = true := mayL_ins hL hsole hn hl
  have hat : ∀ j, ((entT t d (insE (entsT t d) ⟨s, i⟩)).set i (emptyN k)).getD j default = if j = i then emptyN k else if j = d then { t.getD d default with ents := insE (entsT t d) ⟨s, i⟩ } else t.getD j default := by
    intro j
    rw [getD_set (by rw [entT_len]; omega)]
    by_cases hj : j = i
    · rw [if_pos hj, if_pos hj]
    · rw [if_neg hj, if_neg hj]
      unfold entT; rw [getD_set (by omega)]
  have hee : (emptyN k).ents = [] := by rcases hk with rfl | rfl <;> rfl
  have hnm : ∀ x : Int, namedT ((entT t d (insE (entsT t d) ⟨s, i⟩)).set i (emptyN k)) x = namedT t x + if (i : Int) = x then 1 else 0 := by
    intro x
    have h1 := named_set (x := x) (t := entT t d (insE (entsT t d) ⟨s, i⟩)) (k := i) (n := emptyN k) (by rw [entT_len]; omega)
    have h2 : namedT (entT t d (insE (entsT t d) ⟨s, i⟩)) x + cntE (entsT t d) x = namedT t x + cntE (insE (entsT t d) ⟨s, i⟩) x := named_set (x := x) (t := t) (k := d) (n := { t.getD d default with ents := insE (entsT t d) ⟨s, i⟩ }) (by omega)
    have h3 : cntE (insE (entsT t d) ⟨s, i⟩) x = cntE (entsT t d) x + if (i : Int) = x then 1 else 0 := cnt_ins (entsT t d) ⟨s, i⟩ x
    have h4 : entsT (entT t d (insE (entsT t d) ⟨s, i⟩)) i = [] := by rw [entT_ents (by omega), if_neg hid]; unfold entsT; rw [hz]; rfl
    rw [h4, hee] at h1
    have h5 : cntE [] x = 0 := rfl
    omega
  generalize hu : (entT t d (insE (entsT t d) ⟨s, i⟩)).set i (emptyN k) = u at *
  have hul : u.length = 12 := by rw [← hu]; simp [entT_len, h12]
  have hkj : ∀ j, j ≠ i → kindT u j = kindT t j := by
    intro j hj
    unfold kindT; rw [hat, if_neg hj]
    split
    · rename_i e; subst e; rfl
    · rfl
  have hki' : kindT u i = k := by unfold kindT; rw [hat, if_pos rfl]; rcases hk with rfl | rfl <;> rfl
  have hed : entsT u d = insE (entsT t d) ⟨s, i⟩ := by unfold entsT; rw [hat, if_neg (fun e => hid e.symm), if_pos rfl]
  have hgrow : ∀ p e, e ∈ entsT t p → ∃ e' ∈ entsT u p, e'.node = e.node := by
    intro p e he
    have hp := hF.ent he
    have hpi : p ≠ i := fun e => by rw [e, hki] at hp; exact absurd hp.2.1 (by decide)
    by_cases hpd : p = d
    · subst hpd; rw [hed]; exact ⟨e, ins_mem.2 (.inr he), rfl⟩
    · refine ⟨e, ?_, rfl⟩
      unfold entsT; rw [hat, if_neg hpi, if_neg hpd]; exact he
  refine mayT_of ⟨hul, all_at hul fun j hj => ?_, ?_, fun j hj hkj2 => ?_, fun j hj hkj1 => ?_, fun j hj hkj0 => ?_⟩ ?_
  · rw [hat]; split
    · rcases hk with rfl | rfl <;> decide
    · split
      · exact dir_mayN (hF.at hd) hkd hL'
      · exact hF.at hj
  · rw [hkj 0 (fun e => hi0 e.symm)]; exact hF.top
  · by_cases hji : j = i
    · subst hji
      have hrd := reach_grow hgrow (hF.dir d hd hkd).1
      refine ⟨?_, .inr ?_⟩
      · have := Reach.step (x := ⟨s, (j : Int)⟩) hrd (by
          show _ ∈ entsT u d
          rw [hed]; exact ins_mem.2 (.inl rfl))
        simpa using this
      · rw [hnm, if_pos rfl, hF.none j hj hki]
    · rw [hkj j hji] at hkj2
      obtain ⟨h1, h2⟩ := hF.dir j hj hkj2
      refine ⟨reach_grow hgrow h1, ?_⟩
      rw [hnm, if_neg (by omega)]; exact h2
  · by_cases hji : j = i
    · subst hji
      rw [hnm, if_pos rfl, hF.none j hj hki, hat, if_pos rfl]
      rw [hki'] at hkj1; subst hkj1; rfl
    · rw [hkj j hji] at hkj1
      have := hF.file j hj hkj1
      rw [hnm, if_neg (by omega), hat, if_neg hji]
      split
      · rename_i e; subst e; exact this
      · exact this
  · by_cases hji : j = i
    · subst hji; rw [hki'] at hkj0; rcases hk with h | h <;> omega
    · rw [hkj j hji] at hkj0
      rw [hnm, if_neg (by omega)]; exact hF.none j hj hkj0
  · rw [← hu]
    refine apart_set (apart_set (mayT_apart hM) (by omega) (List.Sublist.refl _)) (by rw [entT_len]; omega) ?_
    have : (emptyN k).seqs.filter (fun s => decide (s ≠ 0)) = [] := by rcases hk with rfl | rfl <;> rfl
    rw [this]; exact List.nil_sublist _
/-- A name less of a node with nothing in it. -/
theorem rem_may {t : Tre} (hM : mayT t = true) {d i : Nat} {s : ByteArray} {x : Ent} {held : List Bool} (hx : x ∈ entsT t d) (hs : x.name = s) (hxi : x.node = i) (hemp : entsT t i = []) :
    mayT (lessT (entT t d (cutE (entsT t d) s)) i held) = true := by
  subst hs
  have hF := mayF hM
  have h12 := hF.len
  obtain ⟨hd, hkd, hi1, hi2, _, hki⟩ := hF.ent hx
  have hi : i < 12 := by omega
  rw [hxi, Int.toNat_natCast] at hki
  have hid : i ≠ d := fun e => hF.nocycle hx (by rw [hxi, Int.toNat_natCast, e]; exact .refl)
  have hL := mayN_ents (hF.at hd)
  have hL' := mayL_cut hL x.name
  have hone : 1 ≤ namedT t (i : Int) := named_one hx hxi
  -- the node as it is behind
  obtain ⟨ni, hni, hcase⟩ : ∃ ni, lessT (entT t d (cutE (entsT t d) x.name)) i held = (entT t d (cutE (entsT t d) x.name)).set i ni ∧ ((kindT t i = 1 ∧ ni = { t.getD i default with links := (t.getD i default).links - 1 }) ∨ (ni = Nod.zero ∧ (kindT t i = 1 → (t.getD i default).links ≤ 1))) := by
    unfold lessT
    have e1 := entT_at (t := t) (l := cutE (entsT t d) x.name) hid
    unfold kindT
    rw [e1]
    split
    · rename_i h; exact ⟨_, rfl, .inl ⟨h.1, rfl⟩⟩
    · rename_i h
      refine ⟨_, rfl, .inr ⟨rfl, fun hk => ?_⟩⟩
      apply Classical.byContradiction
      intro hl
      exact h ⟨hk, .inl (by omega)⟩
  rw [hni]
  have hnie : ni.ents = [] := by
    rcases hcase with ⟨_, rfl⟩ | ⟨rfl, _⟩
    · exact hemp
    · rfl
  have hat : ∀ j, ((entT t d (cutE (entsT t d) x.name)).set i ni).getD j default = if j = i then ni else if j = d then { t.getD d default with ents := cutE (entsT t d) x.name } else t.getD j default := by
    intro j
    rw [getD_set (by rw [entT_len]; omega)]
    by_cases hj : j = i
    · rw [if_pos hj, if_pos hj]
    · rw [if_neg hj, if_neg hj]
      unfold entT; rw [getD_set (by omega)]
  have hnm : ∀ y : Int, namedT ((entT t d (cutE (entsT t d) x.name)).set i ni) y + (if (i : Int) = y then 1 else 0) = namedT t y := by
    intro y
    have h1 := named_set (x := y) (t := entT t d (cutE (entsT t d) x.name)) (k := i) (n := ni) (by rw [entT_len]; omega)
    have h2 : namedT (entT t d (cutE (entsT t d) x.name)) y + cntE (entsT t d) y = namedT t y + cntE (cutE (entsT t d) x.name) y := named_set (x := y) (t := t) (k := d) (n := { t.getD d default with ents := cutE (entsT t d) x.name }) (by omega)
    have h3 : cntE (entsT t d) y = cntE (cutE (entsT t d) x.name) y + if x.node = y then 1 else 0 := cnt_cut hL hx y
    have h4 : entsT (entT t d (cutE (entsT t d) x.name)) i = [] := by rw [entT_ents (by omega), if_neg hid]; exact hemp
    rw [h4, hnie] at h1
    have h5 : cntE [] y = 0 := rfl
    rw [hxi] at h3
    omega
  generalize hu : (entT t d (cutE (entsT t d) x.name)).set i ni = u at *
  have hul : u.length = 12 := by rw [← hu]; simp [entT_len, h12]
  have hkj : ∀ j, j ≠ i → kindT u j = kindT t j := by
    intro j hj
    unfold kindT; rw [hat, if_neg hj]
    split
    · rename_i e; subst e; rfl
    · rfl
  have hki' : kindT u i = ni.kind := by unfold kindT; rw [hat, if_pos rfl]
  have hkeep : ∀ p e, e ∈ entsT t p → ¬ (e.node.toNat = i) → ∃ e' ∈ entsT u p, e'.node = e.node := by
    intro p e he hne
    have hp := hF.ent he
    have hpi : p ≠ i := fun q => by rw [q, hemp] at he; cases he
    refine ⟨e, ?_, rfl⟩
    unfold entsT; rw [hat, if_neg hpi]
    by_cases hpd : p = d
    · subst hpd
      rw [if_pos rfl]
      exact cut_mem.2 ⟨he, fun hn => hne (by rw [ent_one hF he hx hn, hxi]; rfl)⟩
    · rw [if_neg hpd]; exact he
  have hreach : ∀ j, j ≠ i → Reach t 0 j → Reach u 0 j := fun j hj hr =>
    reach_avoid (A := fun q => q = i) hkeep hr fun q hq hr2 => by subst hq; exact hj (reach_leaf hemp hr2)
  refine mayT_of ⟨hul, all_at hul fun j hj => ?_, ?_, fun j hj hkj2 => ?_, fun j hj hkj1 => ?_, fun j hj hkj0 => ?_⟩ ?_
  · rw [hat]; split
    · rcases hcase with ⟨h1, rfl⟩ | ⟨rfl, _⟩
      · have hf := hF.file i hi h1
        have hl := file_links hM hi
        exact file_mayN (hF.at hi) h1 (by omega) (by omega)
      · decide
    · split
      · exact dir_mayN (hF.at hd) hkd hL'
      · exact hF.at hj
  · rw [hkj 0 (fun e => by have := hF.zero hx; omega)]; exact hF.top
  · by_cases hji : j = i
    · subst hji
      rw [hki'] at hkj2
      rcases hcase with ⟨h1, rfl⟩ | ⟨rfl, _⟩
      · have : kindT t j = 2 := hkj2
        omega
      · exact absurd hkj2 (by decide)
    · rw [hkj j hji] at hkj2
      obtain ⟨h1, h2⟩ := hF.dir j hj hkj2
      refine ⟨hreach j hji h1, ?_⟩
      have := hnm j
      rw [if_neg (by omega)] at this
      omega
  · by_cases hji : j = i
    · subst hji
      have h3 := hnm j
      rw [if_pos rfl] at h3
      rw [hki'] at hkj1
      rcases hcase with ⟨h1, rfl⟩ | ⟨rfl, _⟩
      · have hf := hF.file j hj h1
        rw [hat, if_pos rfl]
        show (t.getD j default).links - 1 = _
        omega
      · exact absurd hkj1 (by decide)
    · rw [hkj j hji] at hkj1
      have := hF.file j hj hkj1
      have h3 := hnm j
      rw [if_neg (by omega)] at h3
      rw [hat, if_neg hji]
      split
      · rename_i e; subst e
        show (t.getD j default).links = _
        omega
      · omega
  · have h3 := hnm j
    by_cases hji : j = i
    · subst hji
      rw [if_pos rfl] at h3
      rw [hki'] at hkj0
      rcases hcase with ⟨h1, rfl⟩ | ⟨rfl, h2⟩
      · have : kindT t j = 0 := hkj0
        omega
      · rcases kind_of (hF.at hj) with hk | hk | hk
        · exact absurd hk hki
        · have hf := hF.file j hj hk
          have := h2 hk
          omega
        · have := (hF.dir j hj hk).2
          have := hF.zero hx
          omega
    · rw [hkj j hji] at hkj0
      have := hF.none j hj hkj0
      omega
  · rw [← hu]
    refine apart_set (apart_set (mayT_apart hM) (by omega) (List.Sublist.refl _)) (by rw [entT_len]; omega) ?_
    rw [entT_at hid]
    rcases hcase with ⟨_, rfl⟩ | ⟨rfl, _⟩
    · exact List.Sublist.refl _
    · exact List.nil_sublist _
end Go.Proofs.YtdlgpolngnkiaaaDoor

/- What comes of a tree that may be may be: links, moves, drops; each call. -/
namespace Go.Proofs.YtdlgpolngnkiaaaDoor
open Go
theorem sole_of {s : ByteArray} {i : Nat} (hs : mayB s = true) (h0 : i ≠ 0) (hi : i < 12) : soleE ⟨s, (i : Int)⟩ = true := by
  unfold soleE
  rw [show mayB (⟨s, (i : Int)⟩ : Ent).name = true from hs, decide_eq_true (show 1 ≤ (⟨s, (i : Int)⟩ : Ent).node by show (1 : Int) ≤ i; omega), decide_eq_true (show (⟨s, (i : Int)⟩ : Ent).node < 12 by show (i : Int) < 12; omega)]; rfl
theorem ents_le {t : Tre} (h : MayF t) {d : Nat} {l : List Ent} (hl : l.length ≤ 10) (hd : d < 12) : ∀ n ∈ entT t d l, n.ents.length ≤ 10 :=
  all_at (by rw [entT_len, h.len]) fun j hj => by
    have := entT_ents (t := t) (d := d) (j := j) (l := l) (by rw [h.len]; exact hd)
    unfold entsT at this
    rw [this]; split
    · exact hl
    · exact mayL_len (mayN_ents (h.at hj))
/-- A name more of a file. -/
theorem link_may {t : Tre} (hM : mayT t = true) {d i : Nat} {s : ByteArray} (hd : d < 12) (hkd : kindT t d = 2) (hi : i < 12) (hki : kindT t i = 1) (hs : mayB s = true) (hn : hasE (entsT t d) s = false) (hl : (entsT t d).length < 10) :
    mayT ((entT t d (insE (entsT t d) ⟨s, i⟩)).set i { t.getD i default with links := (t.getD i default).links + 1 }) = true := by
  have hF := mayF hM
  have h12 := hF.len
  have hi0 : i ≠ 0 := fun e => by rw [e, hF.top] at hki; cases hki
  have hid : i ≠ d := fun e => by rw [e, hkd] at hki; cases hki
  have hemp := file_noents hF hi (by omega)
  have hL := mayN_ents (hF.at hd)
  have hL' : mayL (insE (entsT t d) ⟨s, i⟩) = true := mayL_ins hL (sole_of hs hi0 hi) hn hl
  have hat : ∀ j, ((entT t d (insE (entsT t d) ⟨s, i⟩)).set i { t.getD i default with links := (t.getD i default).links + 1 }).getD j default = if j = i then { t.getD i default with links := (t.getD i default).links + 1 } else if j = d then { t.getD d default with ents := insE (entsT t d) ⟨s, i⟩ } else t.getD j default := by
    intro j
    rw [getD_set (by rw [entT_len]; omega)]
    by_cases hj : j = i
    · rw [if_pos hj, if_pos hj]
    · rw [if_neg hj, if_neg hj]
      unfold entT; rw [getD_set (by omega)]
  have hnm0 : ∀ x : Int, namedT (entT t d (insE (entsT t d) ⟨s, i⟩)) x = namedT t x + if (i : Int) = x then 1 else 0 := by
    intro x
    have h2 : namedT (entT t d (insE (entsT t d) ⟨s, i⟩)) x + cntE (entsT t d) x = namedT t x + cntE (insE (entsT t d) ⟨s, i⟩) x := named_set (x := x) (t := t) (k := d) (n := { t.getD d default with ents := insE (entsT t d) ⟨s, i⟩ }) (by omega)
    have h3 : cntE (insE (entsT t d) ⟨s, i⟩) x = cntE (entsT t d) x + if (i : Int) = x then 1 else 0 := cnt_ins (entsT t d) ⟨s, i⟩ x
    omega
  have hnm : ∀ x : Int, namedT ((entT t d (insE (entsT t d) ⟨s, i⟩)).set i { t.getD i default with links := (t.getD i default).links + 1 }) x = namedT t x + if (i : Int) = x then 1 else 0 := by
    intro x
    have h1 := named_set (x := x) (t := entT t d (insE (entsT t d) ⟨s, i⟩)) (k := i) (n := { t.getD i default with links := (t.getD i default).links + 1 }) (by rw [entT_len]; omega)
    have h4 : entsT (entT t d (insE (entsT t d) ⟨s, i⟩)) i = [] := by rw [entT_ents (by omega), if_neg hid]; exact hemp
    have h5 : ({ t.getD i default with links := (t.getD i default).links + 1 } : Nod).ents = [] := hemp
    rw [h4, h5] at h1
    have h6 := hnm0 x
    omega
  have hle := named_le (t := entT t d (insE (entsT t d) ⟨s, i⟩)) (by rw [entT_len, h12]) (ents_le hF (mayL_len hL') hd) i
  rw [hnm0, if_pos rfl] at hle
  generalize hu : (entT t d (insE (entsT t d) ⟨s, i⟩)).set i { t.getD i default with links := (t.getD i default).links + 1 } = u at *
  have hul : u.length = 12 := by rw [← hu]; simp [entT_len, h12]
  have hkj : ∀ j, kindT u j = kindT t j := by
    intro j
    unfold kindT; rw [hat]
    split
    · rename_i e; subst e; rfl
    · split
      · rename_i e; subst e; rfl
      · rfl
  have hed : entsT u d = insE (entsT t d) ⟨s, i⟩ := by unfold entsT; rw [hat, if_neg (fun e => hid e.symm), if_pos rfl]
  have hgrow : ∀ p e, e ∈ entsT t p → ∃ e' ∈ entsT u p, e'.node = e.node := by
    intro p e he
    by_cases hpd : p = d
    · subst hpd; rw [hed]; exact ⟨e, ins_mem.2 (.inr he), rfl⟩
    · refine ⟨e, ?_, rfl⟩
      unfold entsT; rw [hat]
      split
      · rename_i e2; subst e2; exact he
      · exact he
  have hfi := hF.file i hi hki
  refine mayT_of ⟨hul, all_at hul fun j hj => ?_, by rw [hkj]; exact hF.top, fun j hj hkj2 => ?_, fun j hj hkj1 => ?_, fun j hj hkj0 => ?_⟩ ?_
  · rw [hat]; split
    · exact file_mayN (hF.at hi) hki (by omega) (by omega)
    · split
      · exact dir_mayN (hF.at hd) hkd hL'
      · exact hF.at hj
  · rw [hkj] at hkj2
    obtain ⟨h1, h2⟩ := hF.dir j hj hkj2
    refine ⟨reach_grow hgrow h1, ?_⟩
    have hji : j ≠ i := fun e => by rw [e, hki] at hkj2; cases hkj2
    rw [hnm, if_neg (by omega)]; exact h2
  · rw [hkj] at hkj1
    have hf := hF.file j hj hkj1
    by_cases hji : j = i
    · subst hji
      rw [hnm, if_pos rfl, hat, if_pos rfl]
      show (t.getD j default).links + 1 = _
      omega
    · rw [hnm, if_neg (by omega), hat, if_neg hji]
      split
      · rename_i e; subst e; exact hf
      · exact hf
  · rw [hkj] at hkj0
    have hji : j ≠ i := fun e => by rw [e, hki] at hkj0; cases hkj0
    rw [hnm, if_neg (by omega)]; exact hF.none j hj hkj0
  · rw [← hu]
    refine apart_set (apart_set (mayT_apart hM) (by omega) (List.Sublist.refl _)) (by rw [entT_len]; omega) ?_
    rw [entT_at hid]; exact List.Sublist.refl _
/-- A file without names goes. -/
theorem drop_may {t : Tre} (hM : mayT t = true) {i : Nat} (hi : i < 12) (hki : kindT t i = 1) (hl : (t.getD i default).links ≤ 0) : mayT (t.set i Nod.zero) = true := by
  have hF := mayF hM
  have h12 := hF.len
  have hemp := file_noents hF hi (by omega)
  have hfi := hF.file i hi hki
  have hat : ∀ j, (t.set i Nod.zero).getD j default = if j = i then Nod.zero else t.getD j default := fun j => getD_set (by omega)
  have hents : ∀ j, entsT (t.set i Nod.zero) j = entsT t j := by
    intro j
    unfold entsT; rw [hat]
    split
    · rename_i e; subst e; exact hemp.symm
    · rfl
  have hnm : ∀ x : Int, namedT (t.set i Nod.zero) x = namedT t x := by
    intro x
    have h1 := named_set (x := x) (t := t) (k := i) (n := Nod.zero) (by omega)
    rw [hemp] at h1
    have h5 : cntE Nod.zero.ents x = 0 := rfl
    have h6 : cntE [] x = 0 := rfl
    omega
  have hul : (t.set i Nod.zero).length = 12 := by simp [h12]
  refine mayT_of ⟨hul, all_at hul fun j hj => ?_, ?_, fun j hj hkj2 => ?_, fun j hj hkj1 => ?_, fun j hj hkj0 => ?_⟩ ?_
  · rw [hat]; split
    · decide
    · exact hF.at hj
  · unfold kindT; rw [hat, if_neg (fun e => by rw [← e, hF.top] at hki; cases hki)]; exact hF.top
  · have hji : j ≠ i := fun e => by subst e; unfold kindT at hkj2; rw [hat, if_pos rfl] at hkj2; cases hkj2
    have hkj2 : kindT t j = 2 := by unfold kindT at hkj2 ⊢; rw [hat, if_neg hji] at hkj2; exact hkj2
    obtain ⟨h1, h2⟩ := hF.dir j hj hkj2
    exact ⟨reach_grow (fun p e he => ⟨e, by rw [hents]; exact he, rfl⟩) h1, by rw [hnm]; exact h2⟩
  · have hji : j ≠ i := fun e => by subst e; unfold kindT at hkj1; rw [hat, if_pos rfl] at hkj1; cases hkj1
    have hkj1 : kindT t j = 1 := by unfold kindT at hkj1 ⊢; rw [hat, if_neg hji] at hkj1; exact hkj1
    rw [hat, if_neg hji, hnm]; exact hF.file j hj hkj1
  · rw [hnm]
    by_cases hji : j = i
    · subst hji; omega
    · have hkj0 : kindT t j = 0 := by unfold kindT at hkj0 ⊢; rw [hat, if_neg hji] at hkj0; exact hkj0
      exact hF.none j hj hkj0
  · exact apart_set (mayT_apart hM) (by omega) (List.nil_sublist _)
/-- A name goes from one directory into another one. -/
theorem move_may {t : Tre} (hM : mayT t = true) {d f i : Nat} {n r : ByteArray} {x : Ent} (hx : x ∈ entsT t d) (hxn : x.name = n) (hxi : x.node = i) (hf : f < 12) (hkf : kindT t f = 2) (hr : mayB r = true) (hno : ¬ Reach t i f) (hh : hasE (E1 t d n f) r = false) (hl : (E1 t d n f).length < 10) :
    mayT (entT (entT t d (cutE (entsT t d) n)) f (insE (E1 t d n f) ⟨r, i⟩)) = true := by
  subst hxn
  have hF := mayF hM
  have h12 := hF.len
  obtain ⟨hd, hkd, hi1, hi2, _, hki⟩ := hF.ent hx
  have hi : i < 12 := by omega
  rw [hxi, Int.toNat_natCast] at hki
  have hL := mayN_ents (hF.at hd)
  have hE : mayL (E1 t d x.name f) = true := by
    unfold E1; split
    · exact mayL_cut hL _
    · exact mayN_ents (hF.at hf)
  have hE' : mayL (insE (E1 t d x.name f) ⟨r, i⟩) = true := mayL_ins hE (sole_of hr (by omega) hi) hh hl
  have hat : ∀ j, (entT (entT t d (cutE (entsT t d) x.name)) f (insE (E1 t d x.name f) ⟨r, i⟩)).getD j default = if j = f then { t.getD f default with ents := insE (E1 t d x.name f) ⟨r, i⟩ } else if j = d then { t.getD d default with ents := cutE (entsT t d) x.name } else t.getD j default := by
    intro j
    by_cases hj : j = f
    · subst hj
      rw [if_pos rfl, entT_same (by rw [entT_len]; omega)]
      by_cases e : j = d
      · subst e; rw [entT_same (by omega)]
      · rw [entT_at e]
    · rw [if_neg hj, entT_at hj]
      by_cases e : j = d
      · subst e; rw [if_pos rfl, entT_same (by omega)]
      · rw [if_neg e, entT_at e]
  have hnm : ∀ y : Int, namedT (entT (entT t d (cutE (entsT t d) x.name)) f (insE (E1 t d x.name f) ⟨r, i⟩)) y = namedT t y := by
    intro y
    have h1 : namedT (entT (entT t d (cutE (entsT t d) x.name)) f (insE (E1 t d x.name f) ⟨r, i⟩)) y + cntE (entsT (entT t d (cutE (entsT t d) x.name)) f) y = namedT (entT t d (cutE (entsT t d) x.name)) y + cntE (insE (E1 t d x.name f) ⟨r, i⟩) y := named_set (x := y) (t := entT t d (cutE (entsT t d) x.name)) (k := f) (n := { (entT t d (cutE (entsT t d) x.name)).getD f default with ents := insE (E1 t d x.name f) ⟨r, i⟩ }) (by rw [entT_len]; omega)
    have h2 : namedT (entT t d (cutE (entsT t d) x.name)) y + cntE (entsT t d) y = namedT t y + cntE (cutE (entsT t d) x.name) y := named_set (x := y) (t := t) (k := d) (n := { t.getD d default with ents := cutE (entsT t d) x.name }) (by omega)
    have h3 : cntE (entsT t d) y = cntE (cutE (entsT t d) x.name) y + if x.node = y then 1 else 0 := cnt_cut hL hx y
    have h4 : cntE (insE (E1 t d x.name f) ⟨r, i⟩) y = cntE (E1 t d x.name f) y + if (i : Int) = y then 1 else 0 := cnt_ins _ _ _
    have h5 : entsT (entT t d (cutE (entsT t d) x.name)) f = E1 t d x.name f := by rw [entT_ents (by omega)]; rfl
    rw [h5] at h1
    rw [hxi] at h3
    omega
  generalize hu : entT (entT t d (cutE (entsT t d) x.name)) f (insE (E1 t d x.name f) ⟨r, i⟩) = u at *
  have hul : u.length = 12 := by rw [← hu, entT_len, entT_len, h12]
  have hkj : ∀ j, kindT u j = kindT t j := by
    intro j
    unfold kindT; rw [hat]
    split
    · rename_i e; subst e; rfl
    · split
      · rename_i e; subst e; rfl
      · rfl
  have hlk : ∀ j, (u.getD j default).links = (t.getD j default).links := by
    intro j
    rw [hat]
    split
    · rename_i e; subst e; rfl
    · split
      · rename_i e; subst e; rfl
      · rfl
  have hkeep : ∀ p e, e ∈ entsT t p → ¬ (e.node.toNat = i) → e ∈ entsT u p := by
    intro p e he hne
    have hcut : p = d → e ∈ cutE (entsT t d) x.name := fun hp => by
      subst hp
      exact cut_mem.2 ⟨he, fun hn => hne (by rw [ent_one hF he hx hn, hxi]; rfl)⟩
    unfold entsT; rw [hat]
    split
    · rename_i e2; subst e2
      refine ins_mem.2 (.inr ?_)
      unfold E1; split
      · rename_i e3; exact hcut e3
      · exact he
    · split
      · rename_i e3; exact hcut e3
      · exact he
  have hnew : (⟨r, (i : Int)⟩ : Ent) ∈ entsT u f := by
    unfold entsT; rw [hat, if_pos rfl]; exact ins_mem.2 (.inl rfl)
  have hav : ∀ j, ¬ Reach t i j → Reach t 0 j → Reach u 0 j := fun j hj hr2 =>
    reach_avoid (A := fun q => q = i) (fun p e he hne => ⟨e, hkeep p e he hne, rfl⟩) hr2 fun q hq hr3 => by subst hq; exact hj hr3
  have hrf := hav f hno (hF.dir f hf hkf).1
  have hri : Reach u 0 i := by
    have := Reach.step (x := ⟨r, (i : Int)⟩) hrf hnew
    simpa using this
  have hin : ∀ j, Reach t i j → Reach u i j := by
    intro j hr2
    induction hr2 with
    | refl => exact .refl
    | @step p e hp he ih =>
      refine .step ih (hkeep p e he fun h => ?_)
      exact hF.nocycle he (by rw [h]; exact hp)
  have hreach : ∀ j, Reach t 0 j → Reach u 0 j := fun j hr2 => by
    by_cases hj : Reach t i j
    · exact hri.trans (hin j hj)
    · exact hav j hj hr2
  refine mayT_of ⟨hul, all_at hul fun j hj => ?_, by rw [hkj]; exact hF.top, fun j hj hkj2 => ?_, fun j hj hkj1 => ?_, fun j hj hkj0 => ?_⟩ ?_
  · rw [hat]; split
    · exact dir_mayN (hF.at hf) hkf hE'
    · split
      · exact dir_mayN (hF.at hd) hkd (mayL_cut hL _)
      · exact hF.at hj
  · rw [hkj] at hkj2
    obtain ⟨h1, h2⟩ := hF.dir j hj hkj2
    exact ⟨hreach j h1, by rw [hnm]; exact h2⟩
  · rw [hkj] at hkj1
    rw [hlk, hnm]; exact hF.file j hj hkj1
  · rw [hkj] at hkj0
    rw [hnm]; exact hF.none j hj hkj0
  · rw [← hu]
    exact apart_set (apart_set (mayT_apart hM) (by omega) (List.Sublist.refl _)) (by rw [entT_len]; omega) (List.Sublist.refl _)
/-! ### each call -/
theorem makes_may {t u : Tre} {p : ByteArray} {k : Int} (hk : k = 1 ∨ k = 2) (h : makesT t p k = .ok u) : mayT u = true := by
  unfold makesT at h
  cases hq : parentT t p with
  | error e => rw [hq] at h; cases h
  | ok q =>
    obtain ⟨d, s⟩ := q
    obtain ⟨ld, P⟩ := par_of hq
    rw [hq] at h
    dsimp only at h
    by_cases h0 : 0 ≤ atI (entsT t d) s
    · rw [if_pos h0] at h; cases h
    by_cases h1 : freeT t < 0
    · rw [if_neg h0, if_pos h1] at h; cases h
    by_cases h2 : 10 ≤ (entsT t d).length
    · rw [if_neg h0, if_neg h1, if_pos h2] at h; cases h
    rw [if_neg h0, if_neg h1, if_neg h2] at h
    cases h
    obtain ⟨f1, f2, f3⟩ : 1 ≤ freeT t ∧ freeT t < 12 ∧ kindT t (freeT t).toNat = 0 := by
      rcases free_spec P.may with h | h
      · omega
      · exact h
    have := new_may P.may hk P.d12 P.kind (i := (freeT t).toNat) (by omega) f3 P.sole (by rw [has_of_at P, decide_eq_false h0]) (by omega)
    rwa [show (((freeT t).toNat : Nat) : Int) = freeT t by omega] at this
theorem unlink_may {t u : Tre} {p : ByteArray} {held : List Bool} (h : unlinkT t p held = .ok u) : mayT u = true := by
  unfold unlinkT at h
  cases hq : parentT t p with
  | error e => rw [hq] at h; cases h
  | ok q =>
    obtain ⟨d, s⟩ := q
    obtain ⟨ld, P⟩ := par_of hq
    rw [hq] at h
    dsimp only at h
    by_cases h0 : atI (entsT t d) s < 0
    · rw [if_pos h0] at h; cases h
    by_cases h1 : kindT t (atI (entsT t d) s).toNat = 2
    · rw [if_neg h0, if_pos h1] at h; cases h
    rw [if_neg h0, if_neg h1] at h
    cases h
    obtain ⟨_, k1, k2, _, x, hx, hxn, hxi⟩ := at_kind P.may h0
    exact rem_may P.may hx hxn (by omega) (file_noents (mayF P.may) (by omega) h1)
theorem rmdir_may {t u : Tre} {p : ByteArray} (h : rmdirT t p = .ok u) : mayT u = true := by
  unfold rmdirT at h
  cases hq : parentT t p with
  | error e => rw [hq] at h; cases h
  | ok q =>
    obtain ⟨d, s⟩ := q
    obtain ⟨ld, P⟩ := par_of hq
    rw [hq] at h
    dsimp only at h
    by_cases h0 : atI (entsT t d) s < 0
    · rw [if_pos h0] at h; cases h
    by_cases h1 : kindT t (atI (entsT t d) s).toNat ≠ 2
    · rw [if_neg h0, if_pos h1] at h; cases h
    by_cases h2 : 0 < (entsT t (atI (entsT t d) s).toNat).length
    · rw [if_neg h0, if_neg h1, if_pos h2] at h; cases h
    rw [if_neg h0, if_neg h1, if_neg h2] at h
    cases h
    obtain ⟨_, k1, k2, _, x, hx, hxn, hxi⟩ := at_kind P.may h0
    have h3 := rem_may (held := []) P.may hx hxn (i := (atI (entsT t d) s).toNat) (by omega) (List.eq_nil_of_length_eq_zero (by omega))
    have hne := cutd_self P.may h0
    have e2 : lessT (entT t d (cutE (entsT t d) s)) (atI (entsT t d) s).toNat [] = (entT t d (cutE (entsT t d) s)).set (atI (entsT t d) s).toNat Nod.zero := by
      unfold lessT
      rw [if_neg]
      rintro ⟨h, _⟩
      have h1 : kindT t (atI (entsT t d) s).toNat = 2 := Classical.byContradiction h1
      unfold kindT at h h1
      rw [entT_at hne] at h; omega
    rwa [e2] at h3
theorem link_mayT {t u : Tre} {p q : ByteArray} (h : linkT t p q = .ok u) : mayT u = true := by
  unfold linkT at h
  cases hf : findT t p with
  | error e => rw [hf] at h; cases h
  | ok i =>
    have hi := findT_range hf
    have hM : mayT t = true := by unfold findT at hf; split at hf; assumption; cases hf
    rw [hf] at h
    dsimp only at h
    by_cases hk : kindT t i = 2
    · rw [if_pos hk] at h; cases h
    rw [if_neg hk] at h
    cases hr : parentT t q with
    | error e => rw [hr] at h; cases h
    | ok z =>
      obtain ⟨d, s⟩ := z
      obtain ⟨ld, P⟩ := par_of hr
      rw [hr] at h
      dsimp only at h
      by_cases h0 : 0 ≤ atI (entsT t d) s
      · rw [if_pos h0] at h; cases h
      by_cases h2 : 10 ≤ (entsT t d).length
      · rw [if_neg h0, if_pos h2] at h; cases h
      rw [if_neg h0, if_neg h2] at h
      cases h
      -- what is found is there
      have hk1 : kindT t i = 1 := by
        have hF := mayF hM
        rcases kind_of (hF.at hi) with h | h | h
        · exfalso
          unfold findT at hf
          rw [if_pos hM] at hf
          split at hf
          · cases hf
          · rename_i l hl
            rcases nil_or_snoc l with rfl | ⟨m, n, rfl⟩
            · cases hf
              have := hF.top
              have h : kindT t 0 = 0 := h
              omega
            · obtain ⟨p, _, hg⟩ := (goF_snoc t n m 0 i).1 hf
              obtain ⟨_, e, he, _, h2⟩ := goF_one hg
              have := (hF.ent he).2.2.2.2.2
              rw [h2] at this
              exact this h
        · exact h
        · exact absurd h hk
      exact link_may hM P.d12 P.kind hi hk1 P.sole (by rw [has_of_at P, decide_eq_false h0]) (by omega)
theorem drop_mayT {t u : Tre} {i : Int} (h : dropT t i = .ok u) : mayT u = true := by
  unfold dropT at h
  split at h
  · rename_i hM
    split at h
    · rename_i hc
      cases h
      exact drop_may hM (by omega) hc.2.2.1 hc.2.2.2
    · cases h
  · cases h
end Go.Proofs.YtdlgpolngnkiaaaDoor

/- What comes of a tree that may be may be: renames. -/
namespace Go.Proofs.YtdlgpolngnkiaaaDoor
open Go
def lessN (n : Nod) (b : Bool) : Nod := if n.kind = 1 ∧ (0 < n.links - 1 ∨ b = true) then { n with links := n.links - 1 } else Nod.zero
theorem lessT_get {t : Tre} {i j : Nat} {held : List Bool} (hi : i < t.length) : (lessT t i held).getD j default = if j = i then lessN (t.getD i default) (heldB held i) else t.getD j default := by
  have e : lessT t i held = t.set i (lessN (t.getD i default) (heldB held i)) := by
    unfold lessT lessN kindT
    by_cases h : (t.getD i default).kind = 1 ∧ (0 < (t.getD i default).links - 1 ∨ heldB held i = true)
    · rw [if_pos h, if_pos h]
    · rw [if_neg h, if_neg h]
  rw [e, getD_set hi]
theorem entT_get {t : Tre} {d j : Nat} {l : List Ent} (hd : d < t.length) : (entT t d l).getD j default = if j = d then { t.getD d default with ents := l } else t.getD j default := getD_set hd
theorem ext_getD {t u : Tre} (hl : t.length = u.length) (h : ∀ j, j < t.length → t.getD j default = u.getD j default) : t = u := by
  apply List.ext_getElem hl
  intro j h1 h2
  have := h j h1
  rwa [getD_at h1, getD_at h2] at this
theorem cut_comm (l : List Ent) (a b : ByteArray) : cutE (cutE l a) b = cutE (cutE l b) a := by
  unfold cutE; rw [List.filter_filter, List.filter_filter]
  congr 1; funext e; exact Bool.and_comm _ _
/-- What a rename knows behind its checks. -/
structure Ren (t : Tre) (p q : ByteArray) (held : List Bool) (u : Tre) (d : Nat) (n : ByteArray) (ld : List ByteArray) (f : Nat) (r : ByteArray) (lf : List ByteArray) (i : Nat) : Prop where
  P : Par t p ld d n
  Q : Par t q lf f r
  hi : atI (entsT t d) n = i
  ne : atI (entsT t f) r ≠ i
  out : insideT t i f = false
  rep : 0 ≤ atI (entsT t f) r → replN (t.getD i default) (t.getD (atI (entsT t f) r).toNat default) = 0
  room : (entsT (moveT t d n i f r (atI (entsT t f) r) held) f).length < 10
  eq : u = entT (moveT t d n i f r (atI (entsT t f) r) held) f (insE (entsT (moveT t d n i f r (atI (entsT t f) r) held) f) ⟨r, i⟩)
theorem ren_of {t u : Tre} {p q : ByteArray} {held : List Bool} (h : renameT t p q held = .ok u) : (u = t ∧ ∃ ld d n lf f r, Par t p ld d n ∧ Par t q lf f r ∧ 0 ≤ atI (entsT t d) n ∧ atI (entsT t f) r = atI (entsT t d) n) ∨ ∃ d n ld f r lf i, Ren t p q held u d n ld f r lf i := by
  unfold renameT at h
  cases hP : parentT t p with
  | error e => rw [hP] at h; cases h
  | ok z =>
    obtain ⟨d, n⟩ := z
    obtain ⟨ld, P⟩ := par_of hP
    rw [hP] at h
    dsimp only at h
    by_cases h0 : atI (entsT t d) n < 0
    · rw [if_pos h0] at h; cases h
    rw [if_neg h0] at h
    cases hQ : parentT t q with
    | error e => rw [hQ] at h; cases h
    | ok z =>
      obtain ⟨f, r⟩ := z
      obtain ⟨lf, Q⟩ := par_of hQ
      rw [hQ] at h
      dsimp only at h
      by_cases h1 : atI (entsT t f) r = atI (entsT t d) n
      · rw [if_pos h1] at h; cases h
        exact .inl ⟨rfl, ld, d, n, lf, f, r, P, Q, by omega, h1⟩
      rw [if_neg h1] at h
      obtain ⟨i, hi⟩ : ∃ i : Nat, atI (entsT t d) n = i := ⟨(atI (entsT t d) n).toNat, by omega⟩
      rw [hi] at h h1
      by_cases h2 : insideT t i f = true
      · rw [if_pos h2] at h; cases h
      rw [if_neg h2] at h
      by_cases h3 : 0 ≤ atI (entsT t f) r ∧ replN (t.getD ((i : Int)).toNat default) (t.getD (atI (entsT t f) r).toNat default) ≠ 0
      · rw [if_pos h3] at h; cases h
      rw [if_neg h3] at h
      rw [Int.toNat_natCast] at h h3
      by_cases h4 : 10 ≤ (entsT (moveT t d n i f r (atI (entsT t f) r) held) f).length
      · rw [if_pos h4] at h; cases h
      rw [if_neg h4] at h
      cases h
      refine .inr ⟨d, n, ld, f, r, lf, i, P, Q, hi, h1, by simpa using h2, fun hk => ?_, by omega, rfl⟩
      apply Classical.byContradiction
      intro hc
      exact h3 ⟨hk, hc⟩
section
variable {t u : Tre} {p q n r : ByteArray} {held : List Bool} {d f i : Nat} {ld lf : List ByteArray}
theorem Ren.ent (R : Ren t p q held u d n ld f r lf i) : i ≠ 0 ∧ i < 12 ∧ kindT t i ≠ 0 ∧ ∃ x ∈ entsT t d, x.name = n ∧ x.node = i := by
  obtain ⟨_, k1, k2, k3, x, hx, hxn, hxi⟩ := at_kind R.P.may (d := d) (s := n) (by rw [R.hi]; omega)
  rw [R.hi] at k1 k2 k3 hxi
  exact ⟨by omega, by omega, by rwa [Int.toNat_natCast] at k3, x, hx, hxn, hxi⟩
theorem Ren.no (R : Ren t p q held u d n ld f r lf i) : ¬ Reach t i f := by
  intro hr
  obtain ⟨_, hi, hk, _⟩ := R.ent
  have h := insideT_iff R.P.may hi R.Q.d12
  rw [R.out, metB_iff.2 hr, Bool.and_true] at h
  have hk2 : kindT t i ≠ 2 := of_decide_eq_false h.symm
  have hF := mayF R.P.may
  have := reach_leaf (file_noents hF hi hk2) hr
  subst this
  exact hk2 R.Q.kind
/-- Who stands where it goes: in it there is nothing. -/
theorem Ren.old (R : Ren t p q held u d n ld f r lf i) (hk : 0 ≤ atI (entsT t f) r) : ∃ k : Nat, atI (entsT t f) r = k ∧ k ≠ 0 ∧ k < 12 ∧ k ≠ f ∧ k ≠ d ∧ k ≠ i ∧ entsT t k = [] ∧ (t.getD k default).kind = (t.getD i default).kind ∧ (kindT t k = 1 ∨ kindT t k = 2) ∧ ∃ y ∈ entsT t f, y.name = r ∧ y.node = k := by
  have hF := mayF R.P.may
  obtain ⟨_, k1, k2, k3, y, hy, hyn, hyi⟩ := at_kind R.Q.may (d := f) (s := r) (by omega)
  obtain ⟨hi0, hi, hik, x, hx, hxn, hxi⟩ := R.ent
  have hrep := R.rep hk
  have hne := R.ne
  have hkf := cutd_self R.Q.may (d := f) (s := r) (by omega)
  obtain ⟨k, hk'⟩ : ∃ k : Nat, atI (entsT t f) r = k := ⟨(atI (entsT t f) r).toNat, by omega⟩
  rw [hk'] at k1 k2 k3 hyi hrep hne hkf
  rw [Int.toNat_natCast] at k3 hrep hkf
  have hkind : (t.getD k default).kind = (t.getD i default).kind ∧ (t.getD k default).ents = [] := by
    unfold replN at hrep
    have a1 := kind_of (hF.at (i := k) (by omega))
    have a2 := kind_of (hF.at hi)
    have hk0 : (t.getD k default).kind ≠ 0 := k3
    have hi0 : (t.getD i default).kind ≠ 0 := hik
    by_cases b1 : (t.getD i default).kind = 2 ∧ (t.getD k default).kind ≠ 2
    · rw [if_pos b1] at hrep; cases hrep
    by_cases b2 : (t.getD i default).kind ≠ 2 ∧ (t.getD k default).kind = 2
    · rw [if_neg b1, if_pos b2] at hrep; cases hrep
    by_cases b3 : 0 < (t.getD k default).ents.length
    · rw [if_neg b1, if_neg b2, if_pos b3] at hrep; cases hrep
    exact ⟨by omega, List.eq_nil_of_length_eq_zero (by omega)⟩
  refine ⟨k, hk', by omega, by omega, hkf, fun e => ?_, by omega, hkind.2, hkind.1, ?_, y, hy, hyn, hyi⟩
  · subst e
    unfold entsT at hx
    rw [hkind.2] at hx; cases hx
  · rcases kind_of (hF.at (i := k) (by omega)) with h | h | h
    · exact absurd h k3
    · exact .inl h
    · exact .inr h
/-- The tree without who stood there. -/
def remT (t : Tre) (f : Nat) (r : ByteArray) (k : Nat) (held : List Bool) : Tre := lessT (entT t f (cutE (entsT t f) r)) k held
theorem Ren.rem (R : Ren t p q held u d n ld f r lf i) {k : Nat} (hk : atI (entsT t f) r = k) : mayT (remT t f r k held) = true ∧ moveT t d n i f r k held = entT (remT t f r k held) d (cutE (entsT (remT t f r k held) d) n) ∧ (∀ j, (remT t f r k held).getD j default = if j = k then lessN (t.getD k default) (heldB held k) else if j = f then { t.getD f default with ents := cutE (entsT t f) r } else t.getD j default) := by
  obtain ⟨k', hk', hk0, hk12, hkf, hkd, hki, hemp, _, _, y, hy, hyn, hyi⟩ := R.old (by omega)
  have : k' = k := by omega
  subst this
  have h12 := (mayT_all R.P.may).1
  have hf := R.Q.d12; have hd := R.P.d12
  have hget : ∀ j, (remT t f r k' held).getD j default = if j = k' then lessN (t.getD k' default) (heldB held k') else if j = f then { t.getD f default with ents := cutE (entsT t f) r } else t.getD j default := by
    intro j
    unfold remT
    rw [lessT_get (by rw [entT_len]; omega), entT_get (by omega), if_neg hkf, entT_get (by omega)]
  have hents : ∀ j, entsT (remT t f r k' held) j = if j = f then cutE (entsT t f) r else if j = k' then [] else entsT t j := by
    intro j
    unfold entsT; rw [hget]
    by_cases h1 : j = k'
    · subst h1
      rw [if_pos rfl, if_neg hkf, if_pos rfl]
      unfold lessN; split
      · exact hemp
      · rfl
    · rw [if_neg h1]
      by_cases h2 : j = f
      · rw [if_pos h2, if_pos h2]
      · rw [if_neg h2, if_neg h2, if_neg h1]
  have hlen : (remT t f r k' held).length = 12 := by unfold remT; rw [lessT_len, entT_len, h12]
  refine ⟨rem_may R.P.may hy hyn hyi hemp, ?_, hget⟩
  unfold moveT
  rw [if_pos (by omega), Int.toNat_natCast]
  refine ext_getD (by rw [lessT_len, entT_len, entT_len, entT_len, hlen, h12]) fun j _ => ?_
  rw [lessT_get (by rw [entT_len, entT_len]; omega), entT_get (by rw [entT_len]; omega), if_neg hkf, entT_get (by omega), if_neg hkd, entT_get (by rw [entT_len]; omega), entT_get (by omega), entT_get (by omega), entT_get (by omega), hget, hget, hents]
  by_cases h1 : j = k'
  · subst h1; rw [if_pos rfl, if_neg hkd, if_pos rfl]
  rw [if_neg h1, if_neg h1]
  by_cases h2 : j = f
  · subst h2
    rw [if_pos rfl, if_pos rfl]
    by_cases h3 : j = d
    · subst h3
      rw [if_pos rfl, if_pos rfl, if_neg h1, if_pos rfl, if_pos rfl, entT_ents (by omega), if_pos rfl, cut_comm]
    · rw [if_neg h3, if_neg h3, entT_ents (by omega), if_neg h3]
  · rw [if_neg h2, if_neg h2]
    by_cases h3 : j = d
    · subst h3
      rw [if_pos rfl, if_pos rfl, if_neg h1, if_neg h2, if_neg h2, if_neg h1]
    · rw [if_neg h3, if_neg h3]
theorem Ren.may (R : Ren t p q held u d n ld f r lf i) : mayT u = true := by
  obtain ⟨hi0, hi, hik, x, hx, hxn, hxi⟩ := R.ent
  have hF := mayF R.P.may
  have h12 := hF.len
  have hf := R.Q.d12; have hd := R.P.d12
  have hroom := R.room
  rw [R.eq]
  by_cases hk : 0 ≤ atI (entsT t f) r
  · obtain ⟨k, hk', hk0, hk12, hkf, hkd, hki, hemp, _, _, y, hy, hyn, hyi⟩ := R.old hk
    obtain ⟨hM1, hmv, hget⟩ := R.rem hk'
    rw [hk'] at hroom ⊢
    rw [hmv] at hroom ⊢
    generalize hT : remT t f r k held = t1 at *
    have hF1 := mayF hM1
    have hents1 : ∀ j, entsT t1 j = if j = f then cutE (entsT t f) r else if j = k then [] else entsT t j := by
      intro j
      unfold entsT; rw [hget]
      by_cases h1 : j = k
      · subst h1
        rw [if_pos rfl, if_neg hkf, if_pos rfl]
        unfold lessN; split
        · exact hemp
        · rfl
      · rw [if_neg h1]
        by_cases h2 : j = f
        · rw [if_pos h2, if_pos h2]
        · rw [if_neg h2, if_neg h2, if_neg h1]
    have hE1 : entsT (entT t1 d (cutE (entsT t1 d) n)) f = E1 t1 d n f := by rw [entT_ents (by rw [hF1.len]; omega)]; rfl
    rw [hE1] at hroom ⊢
    have hx1 : x ∈ entsT t1 d := by
      rw [hents1]
      by_cases h1 : d = f
      · subst h1
        rw [if_pos rfl]
        refine cut_mem.2 ⟨hx, fun e => hki ?_⟩
        have := ent_one hF hx hy (by rw [e, hyn])
        rw [this, hyi] at hxi; omega
      · rw [if_neg h1, if_neg (fun e => hkd e.symm)]; exact hx
    refine move_may hM1 hx1 hxn hxi hf ?_ R.Q.sole ?_ ?_ hroom
    · unfold kindT; rw [hget, if_neg (fun e => hkf e.symm), if_pos rfl]; exact R.Q.kind
    · intro hr
      refine R.no (reach_grow (fun p e he => ⟨e, ?_, rfl⟩) hr)
      rw [hents1] at he
      by_cases h1 : p = f
      · subst h1; rw [if_pos rfl] at he; exact (cut_mem.1 he).1
      · rw [if_neg h1] at he
        by_cases h2 : p = k
        · rw [if_pos h2] at he; cases he
        · rw [if_neg h2] at he; exact he
    · unfold E1
      by_cases h1 : f = d
      · rw [if_pos h1, hents1, if_pos h1.symm]
        refine has_false.2 fun e he => ?_
        have := (cut_mem.1 he).1
        exact (cut_mem.1 this).2
      · rw [if_neg h1, hents1, if_pos rfl]; exact cut_has _ _
  · have hmv : moveT t d n i f r (atI (entsT t f) r) held = entT t d (cutE (entsT t d) n) := by unfold moveT; rw [if_neg hk]
    rw [hmv] at hroom ⊢
    have hE1 : entsT (entT t d (cutE (entsT t d) n)) f = E1 t d n f := by rw [entT_ents (by omega)]; rfl
    rw [hE1] at hroom ⊢
    have hne := R.ne
    exact move_may R.P.may hx hxn hxi hf R.Q.kind R.Q.sole R.no (by rw [E1_has R.P R.Q (by rw [R.hi]; exact hne), decide_eq_false hk]) hroom
end
theorem rename_may {t u : Tre} {p q : ByteArray} {held : List Bool} (h : renameT t p q held = .ok u) : mayT u = true := by
  rcases ren_of h with ⟨rfl, _, _, _, _, _, _, P, _⟩ | ⟨d, n, ld, f, r, lf, i, R⟩
  · exact P.may
  · exact R.may
end Go.Proofs.YtdlgpolngnkiaaaDoor

/- Steps of a script of calls on names; TreeMay. -/
namespace Go.Proofs.YtdlgpolngnkiaaaDoor
open Go
structure Stp where
  do_ : Int
  n : Int
  path : ByteArray
  to_ : ByteArray
  held : List Bool
instance : Inhabited Stp := ⟨⟨0, 0, ⟨#[]⟩, ⟨#[]⟩, []⟩⟩
instance : Rep Stp where
  sz := 5
  pos := by decide
  rep V vs c := ∃ s : Sl, vs = [.int .i64 c.do_, .int .i64 c.n, .string c.path, .string c.to_, .slice s.a s.n s.c] ∧ inI .i64 c.n ∧ c.path.size ≤ 9223372036854775807 ∧ c.to_.size ≤ 9223372036854775807 ∧ SlR V s c.held
  len h := by obtain ⟨s, h, _⟩ := h; rw [h]; rfl
  one h := by obtain ⟨s, h, _⟩ := h; rw [h]; rfl
  mono hV h := let ⟨s, h, h0, h1, h2, h3⟩ := h; ⟨s, h, h0, h1, h2, h3.mono hV⟩
theorem SlR.stp {V : View} {s : Sl} {l : List Stp} (h : SlR V s l) {i : Nat} (hi : i < l.length) : ∃ ad y, s.a = some ad ∧ cellsAt V (ad.add (((i : Int)).toNat * 5)) [.int .i64 l[i].do_, .int .i64 l[i].n, .string l[i].path, .string l[i].to_, .slice y.a y.n y.c] ∧ inI .i64 l[i].n ∧ l[i].path.size ≤ 9223372036854775807 ∧ l[i].to_.size ≤ 9223372036854775807 ∧ SlR V y l[i].held := by
  have hn := h.n
  obtain ⟨ad, vs, hx, ha, hc, y, rfl, h1, h2, h3, h4⟩ := h.ld (x := (i : Int)) (by omega) (by omega)
  exact ⟨ad, y, ha, hc, h1, h2, h3, h4⟩
noncomputable def stepT (t : Tre) (c : Stp) : Except Int Tre :=
  if c.do_ = 0 then makesT t c.path 1 else if c.do_ = 1 then makesT t c.path 2 else if c.do_ = 2 then unlinkT t c.path c.held else if c.do_ = 3 then rmdirT t c.path else if c.do_ = 4 then renameT t c.path c.to_ c.held else if c.do_ = 5 then linkT t c.path c.to_ else dropT t c.n
theorem step_may {t u : Tre} {c : Stp} (h : stepT t c = .ok u) : mayT u = true := by
  unfold stepT at h
  repeat' split at h
  · exact makes_may (.inl rfl) h
  · exact makes_may (.inr rfl) h
  · exact unlink_may h
  · exact rmdir_may h
  · exact rename_may h
  · exact link_mayT h
  · exact drop_mayT h
theorem out_ret {V V' : View} {r : Value} {o : Except Int Tre} (h : outT V V' r o) : ∃ x : Sl, ∃ e : Int, r = .tuple ⟨[.agg ⟨[.slice x.a x.n x.c]⟩, .int .i64 e]⟩ ∧ outT V V' (.tuple ⟨[.agg ⟨[.slice x.a x.n x.c]⟩, .int .i64 e]⟩) o := by
  obtain ⟨⟨x, e, rfl, h1⟩, h2⟩ := h
  exact ⟨x, e, rfl, ⟨x, e, rfl, h1⟩, h2⟩
theorem does_ok {s y : Sl} {t : Tre} {c : Stp} {V : View} (h : SlR V s t) (hy : SlR V y c.held) (h1 : c.path.size ≤ 9223372036854775807) (h2 : c.to_.size ≤ 9223372036854775807) (hg : Glo V) : CallV Tryd.prog 24 ⟨[treV s, .agg ⟨[.int .i64 c.do_, .int .i64 c.n, .string c.path, .string c.to_, .slice y.a y.n y.c]⟩]⟩ V fun r V' => outT V V' r (stepT t c) := by
  refine f24_x ?_
  unfold f24_n
  intro _ _ _
  refine br_intro (fun b0 => ?_) (fun b0 => br_intro (fun b1 => ?_) (fun b1 => br_intro (fun b2 => ?_) (fun b2 => br_intro (fun b3 => ?_) (fun b3 => br_intro (fun b4 => ?_) (fun b4 => br_intro (fun b5 => ?_) (fun b5 => ?_))))))
  · have e : stepT t c = makesT t c.path 1 := by unfold stepT; rw [if_pos (of_decide_eq_true b0)]
    rw [e]; exact (create_ok h h1 hg).mono fun r V' hr => out_ret hr
  · have e : stepT t c = makesT t c.path 2 := by unfold stepT; rw [if_neg (of_decide_eq_false b0), if_pos (of_decide_eq_true b1)]
    rw [e]; exact (mkdir_ok h h1 hg).mono fun r V' hr => out_ret hr
  · have e : stepT t c = unlinkT t c.path c.held := by unfold stepT; rw [if_neg (of_decide_eq_false b0), if_neg (of_decide_eq_false b1), if_pos (of_decide_eq_true b2)]
    rw [e]; exact (unlink_ok h hy h1 hg).mono fun r V' hr => out_ret hr
  · have e : stepT t c = rmdirT t c.path := by unfold stepT; rw [if_neg (of_decide_eq_false b0), if_neg (of_decide_eq_false b1), if_neg (of_decide_eq_false b2), if_pos (of_decide_eq_true b3)]
    rw [e]; exact (rmdir_ok h h1 hg).mono fun r V' hr => out_ret hr
  · have e : stepT t c = renameT t c.path c.to_ c.held := by unfold stepT; rw [if_neg (of_decide_eq_false b0), if_neg (of_decide_eq_false b1), if_neg (of_decide_eq_false b2), if_neg (of_decide_eq_false b3), if_pos (of_decide_eq_true b4)]
    rw [e]; exact (rename_ok h hy h1 h2 hg).mono fun r V' hr => out_ret hr
  · have e : stepT t c = linkT t c.path c.to_ := by unfold stepT; rw [if_neg (of_decide_eq_false b0), if_neg (of_decide_eq_false b1), if_neg (of_decide_eq_false b2), if_neg (of_decide_eq_false b3), if_neg (of_decide_eq_false b4), if_pos (of_decide_eq_true b5)]
    rw [e]; exact (link_ok h h1 h2 hg).mono fun r V' hr => out_ret hr
  · have e : stepT t c = dropT t c.n := by unfold stepT; rw [if_neg (of_decide_eq_false b0), if_neg (of_decide_eq_false b1), if_neg (of_decide_eq_false b2), if_neg (of_decide_eq_false b3), if_neg (of_decide_eq_false b4), if_neg (of_decide_eq_false b5)]
    rw [e]; exact (drop_ok h).mono fun r V' hr => out_ret hr
theorem heavy_ok {s : Sl} {l : List Stp} {V : View} (h : SlR V s l) : CallV Tryd.prog 23 ⟨[.slice s.a s.n s.c]⟩ V fun r V' => ∃ x : Int, r = .int .i64 x ∧ 0 ≤ x ∧ (x = 0 → l.length ≤ 80) ∧ V' = V := by
  refine f23_x ?_
  unfold f23_n
  have hn := h.n
  refine loop1 (k := .int .i64) (fun (x : Int) V' => V' = V ∧ ∃ i : Nat, x = i ∧ i ≤ l.length ∧ i ≤ 80) (fun (x : Int) _ => l.length - x.toNat) ⟨rfl, 0, rfl, by omega, by omega⟩ ?_
  rintro (x : Int) V1 ⟨rfl, i, rfl, hi, h80⟩
  have hw : IntKind.wrap .i64 ((i : Int) + 1) = (i : Int) + 1 := wrap_of_in (inI64 (by omega) (by omega))
  refine br_intro (fun hlt => ?_) (fun hge => ⟨0, rfl, by omega, fun _ => by have := of_decide_eq_false hge; omega, rfl⟩)
  have hlt : i < l.length := by have := of_decide_eq_true hlt; omega
  obtain ⟨ad, y, ha, hc, _⟩ := h.stp hlt
  refine ⟨by omega, by omega, ad, ha, _, _, _, _, y, hc, fun _ => joinP_cut (fun q V' => V' = V1 ∧ (q.1 = false → i < 80)) (br_intro (fun hb => ⟨rfl, fun h => absurd h (by decide)⟩) (fun hb => ⟨rfl, fun _ => by have := of_decide_eq_false hb; omega⟩)) ?_⟩
  rintro ⟨q, ⟨⟩⟩ V2 ⟨rfl, hq⟩
  dsimp only [unc] at *
  rw [hw]
  exact br_intro (fun _ => ⟨_, rfl, by omega, fun h => by omega, rfl⟩) (fun hb => ⟨⟨rfl, i + 1, by omega, by omega, by have := hq hb; omega⟩, by omega⟩)
/-! ### the calls that every program must know -/
def T1 : Tre := (entT firstT 0 (insE (entsT firstT 0) ⟨ba [97], 1⟩)).set 1 (emptyN 2)
def T2 : Tre := (entT T1 1 (insE (entsT T1 1) ⟨ba [98], 2⟩)).set 2 (emptyN 1)
def T3 : Tre := (entT T2 0 (insE (entsT T2 0) ⟨ba [100], 2⟩)).set 2 { T2.getD 2 default with links := (T2.getD 2 default).links + 1 }
theorem makes_eq {t : Tre} {p s : ByteArray} {ld : List ByteArray} {d : Nat} {k i : Int} (P : Par t p ld d s) (h0 : ¬ 0 ≤ atI (entsT t d) s) (hf : idxI (fun n => decide (n.kind = 0)) t = i) (hi : ¬ i < 0) (hl : ¬ 10 ≤ (entsT t d).length) : makesT t p k = .ok ((entT t d (insE (entsT t d) ⟨s, i⟩)).set i.toNat (emptyN k)) := by
  have hf : freeT t = i := by unfold freeT; rw [if_pos P.may]; exact hf
  unfold makesT
  rw [P.eq]
  dsimp only
  rw [if_neg h0, hf, if_neg hi, if_neg hl]
theorem t1_eq : makesT firstT (ba [47, 97]) 2 = .ok T1 := makes_eq (ld := []) (d := 0) (s := ba [97]) (i := 1) ⟨mayT_first, by decide, rfl, rfl⟩ (by decide) (by decide) (by decide) (by decide)
theorem t1_may : mayT T1 = true := makes_may (.inr rfl) t1_eq
theorem t2_eq : makesT T1 (ba [47, 97, 47, 98]) 1 = .ok T2 := makes_eq (ld := [ba [97]]) (d := 1) (s := ba [98]) (i := 2) ⟨t1_may, by decide, rfl, rfl⟩ (by decide) (by decide) (by decide) (by decide)
theorem t2_may : mayT T2 = true := makes_may (.inl rfl) t2_eq
theorem t2_ren : renameT T2 (ba [47, 97]) (ba [47, 97, 47, 99]) [] = .error 17 := by
  have P : Par T2 (ba [47, 97]) [] 0 (ba [97]) := ⟨t2_may, by decide, rfl, rfl⟩
  have Q : Par T2 (ba [47, 97, 47, 99]) [ba [97]] 1 (ba [99]) := ⟨t2_may, by decide, rfl, rfl⟩
  have e1 : atI (entsT T2 0) (ba [97]) = ((1 : Nat) : Int) := by decide
  have e2 : atI (entsT T2 1) (ba [99]) = -1 := by decide
  unfold renameT
  rw [P.eq]; dsimp only
  rw [e1, if_neg (by decide), Q.eq]; dsimp only
  rw [e2, if_neg (by decide), if_pos]
  rw [insideT_iff t2_may (by decide) (by decide), metB_iff.2 .refl]; rfl
theorem t3_eq : linkT T2 (ba [47, 97, 47, 98]) (ba [47, 100]) = .ok T3 := by
  have P : Par T2 (ba [47, 97, 47, 98]) [ba [97]] 1 (ba [98]) := ⟨t2_may, by decide, rfl, rfl⟩
  have Q : Par T2 (ba [47, 100]) [] 0 (ba [100]) := ⟨t2_may, by decide, rfl, rfl⟩
  have e1 : findT T2 (ba [47, 97, 47, 98]) = .ok 2 := by rw [P.find]; rfl
  unfold linkT
  rw [e1]; dsimp only
  rw [if_neg (by decide), Q.eq]; dsimp only
  rw [if_neg (by decide), if_neg (by decide)]; rfl
theorem t3_may : mayT T3 = true := link_mayT t3_eq
theorem t3_rmdir : rmdirT T3 (ba [47, 97]) = .error 12 := by
  have P : Par T3 (ba [47, 97]) [] 0 (ba [97]) := ⟨t3_may, by decide, rfl, rfl⟩
  unfold rmdirT
  rw [P.eq]; dsimp only
  rw [if_neg (by decide), if_neg (by decide), if_pos (by decide)]
theorem awake19_ok {V : View} (hg : Glo V) : CallV Tryd.prog 11 ⟨[]⟩ V fun r V' => r = .bool true ∧ V.Le V' := by
  refine f11_x (_u := ()) ?_
  unfold f11_n
  refine first_ok.mono ?_
  rintro r V1 ⟨x, rfl, hx, hV1⟩
  refine ⟨x, rfl, (mkdir_ok (p := ba [47, 97]) hx (by decide) (hg.mono hV1)).mono ?_⟩
  rintro r V2 ⟨⟨x1, e1, rfl, h1⟩, hV2⟩
  rw [t1_eq] at h1
  obtain ⟨rfl, h1⟩ := h1
  have q2 := hV1.trans hV2
  refine ⟨x1, _, rfl, fun _ => (create_ok (p := ba [47, 97, 47, 98]) h1 (by decide) (hg.mono q2)).mono ?_⟩
  rintro r V3 ⟨⟨x2, e2, rfl, h2⟩, hV3⟩
  rw [t2_eq] at h2
  obtain ⟨rfl, h2⟩ := h2
  have q3 := q2.trans hV3
  refine ⟨x2, _, rfl, fun _ => (rename_ok (y := ⟨none, 0, 0⟩) (held := []) (p := ba [47, 97]) (q := ba [47, 97, 47, 99]) h2 (SlR.nil _ _ _) (by decide) (by decide) (hg.mono q3)).mono ?_⟩
  rintro r V4 ⟨⟨x3, e3, rfl, h3⟩, hV4⟩
  rw [t2_ren] at h3
  obtain ⟨rfl, _⟩ := h3
  have q4 := q3.trans hV4
  refine ⟨x3, _, rfl, fun _ => (link_ok (p := ba [47, 97, 47, 98]) (q := ba [47, 100]) (h2.mono hV4) (by decide) (by decide) (hg.mono q4)).mono ?_⟩
  rintro r V5 ⟨⟨x4, e4, rfl, h4⟩, hV5⟩
  rw [t3_eq] at h4
  obtain ⟨rfl, h4⟩ := h4
  have q5 := q4.trans hV5
  refine ⟨x4, _, rfl, fun _ => (rmdir_ok (p := ba [47, 97]) h4 (by decide) (hg.mono q5)).mono ?_⟩
  rintro r V6 ⟨⟨x5, e5, rfl, h5⟩, hV6⟩
  rw [t3_rmdir] at h5
  obtain ⟨rfl, _⟩ := h5
  have q6 := q5.trans hV6
  refine ⟨x5, _, rfl, fun _ => joinP_cut (fun q V' => q.1 = true ∧ V.Le V') (br_intro (fun _ => (mayT_ok (h4.mono hV6)).mono ?_) (fun h => absurd h (by decide))) ?_⟩
  · rintro r V7 ⟨rfl, hV7⟩
    exact ⟨_, rfl, t3_may, q6.trans hV7⟩
  · rintro ⟨q, ⟨⟩⟩ V7 ⟨h1, h2⟩
    dsimp only [unc] at *
    exact ⟨by rw [h1], h2⟩
theorem awake19J {V V0 : View} (hle : V0.Le V) (hg : Glo V) {Q : Bool → View → Prop} (hQ : ∀ V', V0.Le V' → Q true V') : CallV Tryd.prog 11 ⟨[]⟩ V fun r V' => ∃ x : Bool, r = .bool x ∧ Q x V' :=
  (awake19_ok hg).mono fun _ V' h => ⟨true, h.1, hQ V' (hle.trans h.2)⟩
theorem treeMay_ok {s y : Sl} {t : Tre} {l : List Stp} {V : View} (h : SlR V s t) (hy : SlR V y l) (hg : Glo V) : CallV Tryd.prog 7 ⟨[treV s, .slice y.a y.n y.c]⟩ V fun r V' => r = .bool true ∧ V.Le V' := by
  refine f7_x ?_
  unfold f7_n
  have hyn := hy.n; have hylim := hy.lim
  refine fun _ => joinP_cut (fun q V' => V.Le V' ∧ (q.1 = false → mayT t = true)) ((light15_ok h).mono ?_) ?_
  · rintro r V1 ⟨x, rfl, _, _, _, rfl⟩
    refine ⟨_, rfl, br_intro (fun _ => ⟨View.Le.refl _, fun h => absurd h (by decide)⟩) (fun _ => (heavy_ok hy).mono ?_)⟩
    rintro r V2 ⟨x2, rfl, _, _, rfl⟩
    refine ⟨_, rfl, br_intro (fun _ => ⟨View.Le.refl _, fun h => absurd h (by decide)⟩) (fun _ => (mayTree_ok h).mono ?_)⟩
    rintro r V3 ⟨rfl, hV3⟩
    exact ⟨_, rfl, hV3, fun h => not_f h⟩
  rintro ⟨q, ⟨⟩⟩ V1 ⟨hV1, hq⟩
  dsimp only [unc] at *
  refine br_intro (fun _ => awake19J hV1 (hg.mono hV1) fun V' hV => ⟨rfl, hV⟩) (fun hb => ?_)
  have hM := hq hb
  refine loop2 (k := .int .i64) (l := .sl) (fun (j : Int) (x : Sl) V' => V.Le V' ∧ ∃ i : Nat, j = i ∧ i ≤ l.length ∧ ∃ u : Tre, SlR V' x u ∧ mayT u = true) (fun (j : Int) _ _ => l.length - j.toNat) ⟨hV1, 0, rfl, by omega, t, h.mono hV1, hM⟩ ?_
  rintro (j : Int) x V2 ⟨hV2, i, rfl, hi, u, hu, hMu⟩
  refine br_intro (fun hlt => ?_) (fun _ => awake19J hV2 (hg.mono hV2) fun V' hV => ⟨rfl, hV⟩)
  have hlt : i < l.length := by have := of_decide_eq_true hlt; omega
  refine joinP_cut (fun q V' => V.Le V' ∧ ∃ u : Tre, SlR V' q.1 u ∧ mayT u = true) ?_ ?_
  · obtain ⟨ad, z, ha, hc, _, s1, s2, hz⟩ := (hy.mono hV2).stp hlt
    refine ⟨by omega, by omega, ad, ha, _, _, _, _, z, hc, fun _ => (does_ok hu hz s1 s2 (hg.mono hV2)).mono ?_⟩
    rintro r V3 ⟨⟨x3, e3, rfl, h3⟩, hV3⟩
    have q3 := hV2.trans hV3
    cases hs : stepT u l[i] with
    | error c =>
      rw [hs] at h3
      obtain ⟨rfl, hc0, h3⟩ := h3
      have hx0 := h3.n
      refine ⟨x3, _, rfl, fun _ => br_intro (fun _ => br_intro (fun hb => ?_) (fun _ => ⟨q3, u, hu.mono hV3, hMu⟩)) (fun hb => absurd (of_decide_eq_true (not_f hb)) hc0)⟩
      have : x3.n = 0 := hx0
      rw [this] at hb; exact absurd hb (by decide)
    | ok v =>
      rw [hs] at h3
      obtain ⟨rfl, h3⟩ := h3
      refine ⟨x3, _, rfl, fun _ => br_intro (fun hb => absurd hb (by decide)) (fun _ => (mayTree_ok h3).mono ?_)⟩
      rintro r V4 ⟨rfl, hV4⟩
      rw [step_may hs]
      exact ⟨_, rfl, br_intro (fun hb => absurd hb (by decide)) (fun _ => ⟨q3.trans hV4, v, h3.mono hV4, step_may hs⟩)⟩
  · rintro ⟨q, ⟨⟩⟩ V3 ⟨h1, u2, h2, h3⟩
    dsimp only [unc] at *
    exact ⟨inI64 (by omega) (by omega), ⟨h1, i + 1, by omega, by omega, u2, h2, h3⟩, by omega⟩
end Go.Proofs.YtdlgpolngnkiaaaDoor

/- What is found behind a call on names: plain laws. -/
namespace Go.Proofs.YtdlgpolngnkiaaaDoor
open Go
theorem goF_app {t : Tre} {m : List ByteArray} : ∀ {l : List ByteArray} {a d : Nat}, goF t a l = .ok d → goF t a (l ++ m) = goF t d m
  | [], a, d, h => by cases h; rfl
  | s :: l, a, d, h => by
    rw [goF_cons] at h
    rw [List.cons_append, goF_cons]
    split at h
    · rename_i hk
      rw [if_pos hk]
      split at h
      · cases h
      · rename_i h0
        rw [if_neg h0]; exact goF_app h
    · cases h
theorem goF_at {t : Tre} {d : Nat} {s : ByteArray} (hk : kindT t d = 2) : goF t d [s] = if atI (entsT t d) s < 0 then .error 8 else .ok (atI (entsT t d) s).toNat := by
  rw [goF_cons, if_pos hk]; rfl
theorem Par.findAt {t : Tre} {p s : ByteArray} {ld : List ByteArray} {d : Nat} (h : Par t p ld d s) : findT t p = if atI (entsT t d) s < 0 then .error 8 else .ok (atI (entsT t d) s).toNat := by
  rw [h.find, goF_app h.go, goF_at h.kind]
theorem Par.found {t : Tre} {p s : ByteArray} {ld : List ByteArray} {d i : Nat} (h : Par t p ld d s) (ha : atI (entsT t d) s = i) : findT t p = .ok i := by
  rw [h.findAt, ha, if_neg (by omega), Int.toNat_natCast]
theorem find_may {t : Tre} {p : ByteArray} {i : Nat} (h : findT t p = .ok i) : mayT t = true := by
  unfold findT at h; split at h; assumption; cases h
/-- What is found, and is not the root, has a parent and a name. -/
theorem find_par {t : Tre} {p : ByteArray} {i : Nat} (h : findT t p = .ok i) (hi : i ≠ 0) : ∃ ld d s, Par t p ld d s ∧ atI (entsT t d) s = i := by
  have hM := find_may h
  unfold findT at h
  rw [if_pos hM] at h
  cases hs : splitP p with
  | none => rw [hs] at h; cases h
  | some l =>
    rw [hs] at h
    have h : goF t 0 l = .ok i := h
    rcases nil_or_snoc l with rfl | ⟨ld, s, rfl⟩
    · cases h; exact absurd rfl hi
    · obtain ⟨d, h1, h2⟩ := (goF_snoc t s ld 0 i).1 h
      obtain ⟨hk, e, he, hn, hq⟩ := goF_one h2
      refine ⟨ld, d, s, ⟨hM, hs, h1, hk⟩, ?_⟩
      have := atI_of ((mayF hM).pair d) he
      rw [hn] at this
      have h3 := (mayF hM).ent he
      omega
theorem atI_none {l : List Ent} {s : ByteArray} (h : hasE l s = false) : atI l s = -1 := by
  unfold atI
  rw [List.find?_eq_none.2]
  intro e he
  simpa using has_false.1 h e he
theorem atI_at {l : List Ent} (h : mayL l = true) {e : Ent} (he : e ∈ l) : atI l e.name = e.node := atI_of (mayL_pair h) he
theorem atI_ins {l : List Ent} {x : Ent} (hl : mayL l = true) (h : mayL (insE l x) = true) (s : ByteArray) : atI (insE l x) s = if x.name = s then x.node else atI l s := by
  by_cases hs : x.name = s
  · rw [if_pos hs, ← hs]; exact atI_at h (ins_mem.2 (.inl rfl))
  · rw [if_neg hs]
    cases hh : hasE l s with
    | true =>
      obtain ⟨e, he, hn⟩ := has_true.1 hh
      rw [← hn, atI_at hl he]; exact atI_at h (ins_mem.2 (.inr he))
    | false =>
      rw [atI_none hh]
      refine atI_none (has_false.2 fun e he => ?_)
      rcases ins_mem.1 he with rfl | he
      · exact hs
      · exact has_false.1 hh e he
theorem atI_cut {l : List Ent} (hl : mayL l = true) (n s : ByteArray) : atI (cutE l n) s = if n = s then -1 else atI l s := by
  by_cases hs : n = s
  · rw [if_pos hs, ← hs]; exact atI_none (cut_has l n)
  · rw [if_neg hs]
    cases hh : hasE l s with
    | true =>
      obtain ⟨e, he, hn⟩ := has_true.1 hh
      rw [← hn, atI_at hl he]
      exact atI_at (mayL_cut hl n) (cut_mem.2 ⟨he, fun h => hs (by rw [← hn, h])⟩)
    | false =>
      rw [atI_none hh]
      exact atI_none (has_false.2 fun e he => has_false.1 hh e (cut_mem.1 he).1)
theorem go_keep {t u : Tre} {A : Nat → Prop} (hk : ∀ p e, e ∈ entsT t p → ¬ A e.node.toNat → kindT u p = 2 ∧ atI (entsT u p) e.name = atI (entsT t p) e.name) :
    ∀ {l : List ByteArray} {a q : Nat}, goF t a l = .ok q → (∀ i, A i → ¬ Reach t i q) → goF u a l = .ok q
  | [], a, q, h, _ => by cases h; rfl
  | s :: l, a, q, h, hA => by
    rw [goF_cons] at h
    split at h
    · split at h
      · cases h
      · rename_i h0
        obtain ⟨e, he, hn, hq⟩ := atI_mem h0
        have hr := goF_reach h
        rw [← hq] at hr
        obtain ⟨h1, h2⟩ := hk a e he fun hA2 => hA _ hA2 hr
        rw [hn] at h2
        rw [goF_cons, if_pos h1, h2, if_neg h0]
        exact go_keep hk h hA
    · cases h
/-- What is known of a new node. -/
structure NewN (t u : Tre) (p : ByteArray) (k : Int) (ld : List ByteArray) (d : Nat) (s : ByteArray) (i : Nat) : Prop where
  P : Par t p ld d s
  no : atI (entsT t d) s = -1
  i0 : i ≠ 0
  i12 : i < 12
  id : i ≠ d
  free : kindT t i = 0
  room : (entsT t d).length < 10
  eq : u = (entT t d (insE (entsT t d) ⟨s, i⟩)).set i (emptyN k)
  at_ : ∀ j, u.getD j default = if j = i then emptyN k else if j = d then { t.getD d default with ents := insE (entsT t d) ⟨s, i⟩ } else t.getD j default
  may : mayT u = true
  insM : mayL (insE (entsT t d) ⟨s, i⟩) = true
theorem new_of {t u : Tre} {p : ByteArray} {k : Int} (hk : k = 1 ∨ k = 2) (h : makesT t p k = .ok u) : ∃ ld d s i, NewN t u p k ld d s i := by
  have hmu := makes_may hk h
  unfold makesT at h
  cases hq : parentT t p with
  | error e => rw [hq] at h; cases h
  | ok q =>
    obtain ⟨d, s⟩ := q
    obtain ⟨ld, P⟩ := par_of hq
    rw [hq] at h
    dsimp only at h
    by_cases h0 : 0 ≤ atI (entsT t d) s
    · rw [if_pos h0] at h; cases h
    by_cases h1 : freeT t < 0
    · rw [if_neg h0, if_pos h1] at h; cases h
    by_cases h2 : 10 ≤ (entsT t d).length
    · rw [if_neg h0, if_neg h1, if_pos h2] at h; cases h
    rw [if_neg h0, if_neg h1, if_neg h2] at h
    obtain ⟨f1, f2, f3⟩ : 1 ≤ freeT t ∧ freeT t < 12 ∧ kindT t (freeT t).toNat = 0 := by
      rcases free_spec P.may with h | h
      · omega
      · exact h
    obtain ⟨i, hi⟩ : ∃ i : Nat, freeT t = i := ⟨(freeT t).toNat, by omega⟩
    rw [hi] at h f1 f2 f3
    rw [Int.toNat_natCast] at h f3
    have h := Except.ok.inj h
    have hat := P.at
    have h12 := (mayT_all P.may).1
    have hd := P.d12
    have hid : i ≠ d := fun e => by rw [e, P.kind] at f3; cases f3
    refine ⟨ld, d, s, i, P, by omega, by omega, by omega, hid, f3, by omega, h.symm, fun j => ?_, hmu, ?_⟩
    · rw [← h, getD_set (by rw [entT_len]; omega)]
      by_cases hj : j = i
      · rw [if_pos hj, if_pos hj]
      · rw [if_neg hj, if_neg hj, entT_get (by omega)]
    · exact mayL_ins P.mayL (sole_of P.sole (by omega) (by omega)) (by rw [has_of_at P, decide_eq_false h0]) (by omega)
section
variable {t u : Tre} {p s : ByteArray} {k : Int} {ld : List ByteArray} {d i : Nat}
theorem NewN.len (h : NewN t u p k ld d s i) : u.length = 12 := (mayT_all h.may).1
theorem NewN.entsD (h : NewN t u p k ld d s i) : entsT u d = insE (entsT t d) ⟨s, i⟩ := by
  unfold entsT; rw [h.at_, if_neg (fun e => h.id e.symm), if_pos rfl]
theorem NewN.entsI (h : NewN t u p k ld d s i) (hk : k = 1 ∨ k = 2) : entsT u i = [] := by
  unfold entsT; rw [h.at_, if_pos rfl]; rcases hk with rfl | rfl <;> rfl
theorem NewN.entsO (h : NewN t u p k ld d s i) {j : Nat} (h1 : j ≠ i) (h2 : j ≠ d) : entsT u j = entsT t j := by
  unfold entsT; rw [h.at_, if_neg h1, if_neg h2]
theorem NewN.kindI (h : NewN t u p k ld d s i) (hk : k = 1 ∨ k = 2) : kindT u i = k := by
  unfold kindT; rw [h.at_, if_pos rfl]; rcases hk with rfl | rfl <;> rfl
theorem NewN.kindO (h : NewN t u p k ld d s i) {j : Nat} (h1 : j ≠ i) : kindT u j = kindT t j := by
  unfold kindT; rw [h.at_, if_neg h1]; split
  · rename_i e; subst e; rfl
  · rfl
theorem NewN.atD (h : NewN t u p k ld d s i) (n : ByteArray) : atI (entsT u d) n = if s = n then (i : Int) else atI (entsT t d) n := by
  rw [h.entsD, atI_ins h.P.mayL h.insM]
theorem NewN.keep (h : NewN t u p k ld d s i) {l : List ByteArray} {a q : Nat} (hg : goF t a l = .ok q) : goF u a l = .ok q := by
  refine go_keep (A := fun _ => False) (fun p' e he _ => ?_) hg (fun _ h => h.elim)
  have hF := mayF h.P.may
  have hp := hF.ent he
  have hpi : p' ≠ i := fun e => by rw [e, h.free] at hp; exact absurd hp.2.1 (by decide)
  refine ⟨by rw [h.kindO hpi]; exact hp.2.1, ?_⟩
  by_cases hpd : p' = d
  · subst hpd
    rw [h.atD, if_neg]
    intro hs
    have := atI_at h.P.mayL he
    rw [← hs, h.no] at this
    omega
  · rw [h.entsO hpi hpd]
theorem NewN.par (h : NewN t u p k ld d s i) : Par u p ld d s := ⟨h.may, h.P.split, h.keep h.P.go, by rw [h.kindO (fun e => h.id e.symm)]; exact h.P.kind⟩
theorem NewN.find (h : NewN t u p k ld d s i) : findT u p = .ok i := h.par.found (by rw [h.atD, if_pos rfl])
theorem NewN.zero (h : NewN t u p k ld d s i) : t.getD i default = Nod.zero := zero_of (mayF h.P.may) h.i12 h.free
/-- The new one goes again. -/
theorem NewN.back (h : NewN t u p k ld d s i) : (entT u d (cutE (entsT u d) s)).set i Nod.zero = t := by
  have h12 := (mayT_all h.P.may).1
  have hul := h.len
  have hd := h.P.d12
  refine ext_getD (by rw [List.length_set, entT_len, hul, h12]) fun j _ => ?_
  rw [getD_set (by rw [entT_len]; have := h.i12; omega)]
  by_cases hj : j = i
  · subst hj; rw [if_pos rfl, h.zero]
  rw [if_neg hj, entT_get (by omega)]
  by_cases hjd : j = d
  · subst hjd
    rw [if_pos rfl, h.at_, if_neg hj, if_pos rfl, h.entsD]
    have hc : cutE (insE (entsT t j) ⟨s, i⟩) s = entsT t j := cut_ins (x := ⟨s, i⟩) (by
      show hasE (entsT t j) s = false
      rw [has_of_at h.P, h.no]; rfl)
    rw [hc]
  · rw [if_neg hjd, h.at_, if_neg hj, if_neg hjd]
theorem NewN.unlink (h : NewN t u p 1 ld d s i) : unlinkT u p [] = .ok t := by
  have ha : atI (entsT u d) s = i := by rw [h.atD, if_pos rfl]
  unfold unlinkT
  rw [h.par.eq]; dsimp only
  rw [ha, if_neg (by omega), Int.toNat_natCast, if_neg (by rw [h.kindI (.inl rfl)]; decide)]
  have : lessT (entT u d (cutE (entsT u d) s)) i [] = (entT u d (cutE (entsT u d) s)).set i Nod.zero := by
    unfold lessT
    rw [if_neg]
    rintro ⟨_, h1 | h1⟩
    · rw [entT_at h.id, h.at_, if_pos rfl] at h1; exact absurd h1 (by decide)
    · exact absurd h1 (by unfold heldB; simp)
  rw [this, h.back]
theorem NewN.rmdir (h : NewN t u p 2 ld d s i) : rmdirT u p = .ok t := by
  have ha : atI (entsT u d) s = i := by rw [h.atD, if_pos rfl]
  unfold rmdirT
  rw [h.par.eq]; dsimp only
  rw [ha, if_neg (by omega), Int.toNat_natCast, if_neg (by rw [h.kindI (.inr rfl)]; decide), if_neg (by rw [h.entsI (.inr rfl)]; decide), h.back]
end
end Go.Proofs.YtdlgpolngnkiaaaDoor

/- TreeHolds and TreeDirs answer true. -/
namespace Go.Proofs.YtdlgpolngnkiaaaDoor
open Go
theorem holds_eq {t : Tre} {p s : ByteArray} {ld : List ByteArray} {d i : Nat} {held : List Bool} (P : Par t p ld d s) (ha : atI (entsT t d) s = i) (hk : kindT t i = 1) (hb : 0 < (t.getD i default).links - 1 ∨ heldB held i = true) :
    unlinkT t p held = .ok ((entT t d (cutE (entsT t d) s)).set i { t.getD i default with links := (t.getD i default).links - 1 }) := by
  have hid : i ≠ d := fun e => by rw [e, P.kind] at hk; cases hk
  unfold unlinkT
  rw [P.eq]; dsimp only
  rw [ha, if_neg (by omega), Int.toNat_natCast, if_neg (by omega)]
  unfold lessT kindT
  rw [entT_at hid, if_pos ⟨hk, hb⟩]
theorem goes_eq {t : Tre} {p s : ByteArray} {ld : List ByteArray} {d i : Nat} {held : List Bool} (P : Par t p ld d s) (ha : atI (entsT t d) s = i) (hk : kindT t i = 1) (hl : (t.getD i default).links ≤ 1) (hb : heldB held i = false) :
    unlinkT t p held = .ok ((entT t d (cutE (entsT t d) s)).set i Nod.zero) := by
  have hid : i ≠ d := fun e => by rw [e, P.kind] at hk; cases hk
  unfold unlinkT
  rw [P.eq]; dsimp only
  rw [ha, if_neg (by omega), Int.toNat_natCast, if_neg (by omega)]
  unfold lessT kindT
  rw [entT_at hid, if_neg]
  rintro ⟨_, h | h⟩
  · omega
  · rw [hb] at h; cases h
theorem heldNil (i : Nat) : heldB [] i = false := by unfold heldB; simp
theorem treeHolds_ok {s : Sl} {t : Tre} {p : ByteArray} {V : View} (h : SlR V s t) (hp : p.size ≤ 9223372036854775807) (hg : Glo V) : CallV Tryd.prog 8 ⟨[treV s, .string p]⟩ V fun r V' => r = .bool true ∧ V.Le V' := by
  refine f8_x ?_
  unfold f8_n
  have hn := h.n
  refine fun _ => joinP_cut (fun q V' => V.Le V' ∧ (q.1 = false → mayT t = true)) ((light15_ok h).mono ?_) ?_
  · rintro r V1 ⟨x, rfl, _, _, _, rfl⟩
    refine ⟨_, rfl, br_intro (fun _ => ⟨View.Le.refl _, fun h => absurd h (by decide)⟩) (fun _ => (mayTree_ok h).mono ?_)⟩
    rintro r V3 ⟨rfl, hV3⟩
    refine ⟨_, rfl, hV3, fun h => ?_⟩
    cases hM : mayT t with
    | true => rfl
    | false => rw [hM] at h; cases h
  rintro ⟨q, ⟨⟩⟩ V1 ⟨hV1, hq⟩
  dsimp only [unc] at *
  refine br_intro (fun _ => awake19J hV1 (hg.mono hV1) fun V' hV => ⟨rfl, hV⟩) (fun hb => ?_)
  have hM := hq hb
  have h12 := (mayT_all hM).1
  refine (dirFind_ok (h.mono hV1) hp (hg.mono hV1)).mono ?_
  rintro r V2 ⟨rfl, hV2⟩
  have q2 := hV1.trans hV2
  cases hf : findT t p with
  | error e =>
    have he := ends_only hf
    refine ⟨_, _, rfl, joinP_cut (fun q V' => q.1 = true ∧ V' = V2) (br_intro (fun _ => ⟨rfl, rfl⟩) (fun hb => ?_)) ?_⟩
    · rw [decide_eq_false he] at hb; cases hb
    · rintro ⟨q, ⟨⟩⟩ V3 ⟨hq1, rfl⟩
      dsimp only [unc] at *
      subst hq1
      exact br_intro (fun _ => awake19J q2 (hg.mono q2) fun V' hV => ⟨rfl, hV⟩) (fun h => absurd h (by decide))
  | ok i =>
    have hi12 := findT_range hf
    obtain ⟨ad, sq, en, ha, hc, hN⟩ := (h.mono q2).nodN (i := i) (by omega)
    refine ⟨_, _, rfl, joinP_cut (fun q V' => V' = V2 ∧ (q.1 = false → i ≠ 0 ∧ kindT t i = 1)) (br_intro (fun _ => ⟨rfl, fun h => absurd h (by decide)⟩) (fun hb => ⟨by omega, by omega, ad, ha, _, cellsAt_nth hc 0 rfl, rfl, fun hq => ⟨?_, of_decide_eq_true (not_f hq)⟩⟩)) ?_⟩
    · rintro rfl
      rw [decide_eq_true (show ((0 : Nat) : Int) < 1 by decide)] at hb
      cases hb
    rintro ⟨q, ⟨⟩⟩ V3 ⟨rfl, hq3⟩
    dsimp only [unc] at *
    refine br_intro (fun _ => awake19J q2 (hg.mono q2) fun V' hV => ⟨rfl, hV⟩) (fun hb3 => ?_)
    obtain ⟨hi0, hk⟩ := hq3 hb3
    obtain ⟨ld, d, n, P, hat⟩ := find_par hf hi0
    have hF := mayF hM
    have hid : i ≠ d := fun e => by rw [e, P.kind] at hk; cases hk
    have hl := file_links hM hi12
    have hl1 : 1 ≤ (t.getD i default).links := by
      have h1 := hF.file i hi12 hk
      obtain ⟨_, _, _, _, e, he, _, h2⟩ := at_kind hM (d := d) (s := n) (by omega)
      have := named_one (x := (i : Int)) he (by omega)
      omega
    -- what the calls make of it
    have hu : ∀ held, heldB held i = true → unlinkT t p held = .ok ((entT t d (cutE (entsT t d) n)).set i { t.getD i default with links := (t.getD i default).links - 1 }) := fun held hh => holds_eq P hat hk (.inr hh)
    have hlen1 : (entT t d (cutE (entsT t d) n)).length = 12 := by rw [entT_len, h12]
    refine ⟨by decide, by decide, by decide, by decide, fun r hr => ?_⟩
    have hfr := View.see_none_of_ge hr
    let heldL : List Bool := (List.replicate 12 false).set i true
    have hs0 : (V3.put r (.cells ⟨(List.replicate 12 [Value.bool false]).flatten⟩ 4 (0, 0))).see r = some (.cells ⟨boolsV (List.replicate 12 false)⟩ 4 (0, 0)) := View.see_put_same _ _ _
    have hset := sets_see (off := i) (vs := [.bool true]) hs0
    have ea : (⟨r, 0, none⟩ : Addr).add (((i : Int)).toNat * 1) = ⟨r, i, none⟩ := by rw [addr0_add]; simp
    refine ⟨by omega, by show (i : Int) < ((12 : Int).toNat : Int); omega, _, rfl, ?_, ?_⟩
    · rw [ea]; exact canSet_of hs0 (by simp [boolsV]; omega)
    rw [ea, hset]
    have hW : V3.Le ((V3.put r (.cells ⟨(List.replicate 12 [Value.bool false]).flatten⟩ 4 (0, 0))).put r (.cells ⟨putL (boolsV (List.replicate 12 false)) i [.bool true]⟩ 4 (0, 0))) :=
      ⟨Nat.le_trans (Nat.le_max_left _ _) (Nat.le_max_left _ _), fun j o ho => by
        have hne : j ≠ r := fun e => by rw [e, hfr] at ho; cases ho
        rw [View.see_put_ne _ _ hne, View.see_put_ne _ _ hne]; exact ho, rfl⟩
    have hheld : SlR ((V3.put r (.cells ⟨(List.replicate 12 [Value.bool false]).flatten⟩ 4 (0, 0))).put r (.cells ⟨putL (boolsV (List.replicate 12 false)) i [.bool true]⟩ 4 (0, 0))) ⟨some ⟨r, 0, none⟩, 12, 12⟩ heldL := by
      have e1 : putL (boolsV (List.replicate 12 false)) i [.bool true] = boolsV heldL := by rw [putL_one, boolsV_set]
      have hl12 : heldL.length = 12 := by simp [heldL]
      have := slR_block (l := heldL) (cs := boolsV heldL) (W := V3) (V := (V3.put r (.cells ⟨(List.replicate 12 [Value.bool false]).flatten⟩ 4 (0, 0))).put r (.cells ⟨putL (boolsV (List.replicate 12 false)) i [.bool true]⟩ 4 (0, 0))) (te := 4) (r := r) (by rw [View.see_put_same, e1]) rows_bool hW (by rw [hl12]; decide)
      rw [hl12] at this; exact this
    have hheldB : heldB heldL i = true := by
      unfold heldB
      rw [List.getD_eq_getElem?_getD, List.getElem?_set_self (by simp; omega)]; rfl
    have q3 := q2.trans hW
    refine (unlink_ok (held := heldL) (y := ⟨some ⟨r, 0, none⟩, 12, 12⟩) (h.mono q3) hheld hp (hg.mono q3)).mono ?_
    rintro r2 V4 ⟨⟨x3, e3, rfl, h3⟩, hV4⟩
    rw [hu heldL hheldB] at h3
    obtain ⟨rfl, h3⟩ := h3
    have q4 := q3.trans hV4
    have hx3 := h3.n
    have hul : ((entT t d (cutE (entsT t d) n)).set i { t.getD i default with links := (t.getD i default).links - 1 }).length = 12 := by rw [List.length_set, hlen1]
    have hui : ((entT t d (cutE (entsT t d) n)).set i { t.getD i default with links := (t.getD i default).links - 1 }).getD i default = { t.getD i default with links := (t.getD i default).links - 1 } := by rw [getD_set (by omega), if_pos rfl]
    have hMu := unlink_may (hu heldL hheldB)
    generalize hU : (entT t d (cutE (entsT t d) n)).set i { t.getD i default with links := (t.getD i default).links - 1 } = u at *
    refine ⟨x3, _, rfl, fun _ => joinP_cut (fun q V' => q.1 = false ∧ V' = V4) ⟨trivial, V4, View.Le.refl _, br_intro (fun hb => ?_) (fun _ => ?_)⟩ ?_⟩
    · rw [decide_eq_true rfl] at hb
      have : x3.n = 12 := by omega
      rw [this] at hb; cases hb
    · obtain ⟨ad5, sq5, en5, ha5, hc5, hN5⟩ := h3.nodN (i := i) (by omega)
      obtain ⟨ad6, sq6, en6, ha6, hc6, hN6⟩ := (h.mono q4).nodN (i := i) (by omega)
      rw [hui] at hc5 hN5
      refine ⟨by omega, by omega, ad5, ha5, sq5, cellsAt_nth hc5 3 rfl, by omega, by omega, ad6, ha6, sq6, cellsAt_nth hc6 3 rfl, (refInts_ok hN5.seqs hN6.seqs).mono ?_⟩
      rintro r3 V5 ⟨rfl, rfl⟩
      refine ⟨_, rfl, View.Le.refl _, V5, View.Le.refl _, View.Le.refl _, br_intro (fun hb => absurd hb (by simp)) (fun _ => ⟨by omega, by omega, ad5, ha5, _, cellsAt_nth hc5 1 rfl, by omega, by omega, ad6, ha6, _, cellsAt_nth hc6 1 rfl, inI_pred hN6.links hl.1, br_intro (fun hb => absurd hb (by simp)) (fun _ => ⟨by omega, by omega, ad5, ha5, _, cellsAt_nth hc5 2 rfl, by omega, by omega, ad6, ha6, _, cellsAt_nth hc6 2 rfl, by simp, rfl⟩)⟩)⟩
    rintro ⟨q, ⟨⟩⟩ V5 ⟨hq5, rfl⟩
    dsimp only [unc] at *
    subst hq5
    refine br_intro (fun h => absurd h (by decide)) (fun _ => (drop_ok h3).mono ?_)
    rintro r3 V6 ⟨⟨x6, e6, rfl, h6⟩, hV6⟩
    have q6 := q4.trans hV6
    refine ⟨x6, e6, rfl, fun _ => (drop_ok (h.mono q6)).mono ?_⟩
    rintro r3 V7 ⟨⟨x7, e7, rfl, h7⟩, hV7⟩
    have q7 := q6.trans hV7
    have hd7 : dropT t (i : Int) = .error 18 := by
      unfold dropT
      rw [if_pos hM, if_neg]
      rintro ⟨_, _, _, h4⟩
      rw [Int.toNat_natCast] at h4; omega
    rw [hd7] at h7
    obtain ⟨rfl, _⟩ := h7
    refine ⟨x7, _, rfl, fun _ => br_intro (fun h => absurd h (by decide)) (fun _ => ?_)⟩
    obtain ⟨ad8, sq8, en8, ha8, hc8, hN8⟩ := (h.mono q7).nodN (i := i) (by omega)
    refine ⟨by omega, by omega, ad8, ha8, _, cellsAt_nth hc8 1 rfl, br_intro (fun hb => ?_) (fun hb => ?_)⟩
    · have hb := of_decide_eq_true hb
      have hd6 : dropT u (i : Int) = .error 18 := by
        unfold dropT
        rw [if_pos hMu, if_neg]
        rintro ⟨_, _, _, h4⟩
        rw [Int.toNat_natCast, hui] at h4
        have h4 : (t.getD i default).links - 1 ≤ 0 := h4
        omega
      rw [hd6] at h6
      obtain ⟨rfl, _⟩ := h6
      refine joinP_cut (fun g V' => g.1 = true ∧ V.Le V') (br_intro (fun _ => awake19J q7 (hg.mono q7) fun V' hV => ⟨rfl, hV⟩) (fun h => absurd h (by decide))) ?_
      rintro ⟨g, ⟨⟩⟩ V8 ⟨g1, g2⟩
      dsimp only [unc] at *
      exact ⟨by rw [g1], g2⟩
    · have hb := of_decide_eq_false hb
      have hl2 : (t.getD i default).links = 1 := by omega
      have hd6 : dropT u (i : Int) = .ok (u.set i Nod.zero) := by
        unfold dropT
        rw [if_pos hMu, Int.toNat_natCast, if_pos]
        refine ⟨by omega, by omega, ?_, ?_⟩
        · unfold kindT; rw [hui]; exact hk
        · rw [hui]; show (t.getD i default).links - 1 ≤ 0; omega
      rw [hd6] at h6
      obtain ⟨rfl, h6⟩ := h6
      have hw := goes_eq (held := []) P hat hk (by omega) (heldNil i)
      have eq : u.set i Nod.zero = (entT t d (cutE (entsT t d) n)).set i Nod.zero := by rw [← hU, List.set_set]
      rw [eq] at h6
      refine (unlink_ok (held := []) (y := ⟨none, 0, 0⟩) (h.mono q7) (SlR.nil _ _ _) hp (hg.mono q7)).mono ?_
      rintro r3 V8 ⟨⟨x9, e9, rfl, h9⟩, hV8⟩
      rw [hw] at h9
      obtain ⟨rfl, h9⟩ := h9
      have q8 := q7.trans hV8
      refine ⟨x9, _, rfl, fun _ => joinP_cut (fun g V' => g.1 = true ∧ V.Le V') (br_intro (fun _ => (refSameT_ok (h6.mono (hV7.trans hV8)) h9).mono ?_) (fun h => absurd h (by decide))) ?_⟩
      · rintro r4 V9 ⟨rfl, rfl⟩
        exact ⟨_, rfl, br_intro (fun _ => awake19J q8 (hg.mono q8) fun V' hV => ⟨rfl, hV⟩) (fun h => absurd h (by simp))⟩
      rintro ⟨g, ⟨⟩⟩ V9 ⟨g1, g2⟩
      dsimp only [unc] at *
      exact ⟨by rw [g1], g2⟩
end Go.Proofs.YtdlgpolngnkiaaaDoor

/- TreeDirs and TreeFull answer true. -/
namespace Go.Proofs.YtdlgpolngnkiaaaDoor
open Go
theorem Par.uniq {t : Tre} {p s s' : ByteArray} {ld ld' : List ByteArray} {d d' : Nat} (h : Par t p ld d s) (k : Par t p ld' d' s') : ld = ld' ∧ d = d' ∧ s = s' := by
  have h1 := h.split
  rw [k.split] at h1
  obtain ⟨h2, h3⟩ := List.append_inj' (Option.some.inj h1) rfl
  subst h2
  have h4 := h.go
  rw [k.go] at h4
  cases h4
  exact ⟨rfl, rfl, (List.cons.inj h3).1.symm⟩
theorem longer_eq {p n : ByteArray} {l : List ByteArray} {s : ByteArray} (h : splitP p = some (l ++ [s])) : p ++ ba [47] ++ n = longer p n := by
  unfold longer
  rw [if_neg]
  rintro rfl
  have : splitP (ba [47]) = some [] := by decide
  rw [this] at h
  simp at h
theorem treeDirs_ok {s : Sl} {t : Tre} {p n : ByteArray} {V : View} (h : SlR V s t) (hp : p.size ≤ 9223372036854775807) (hn' : n.size ≤ 9223372036854775807) (hg : Glo V) : CallV Tryd.prog 6 ⟨[treV s, .string p, .string n]⟩ V fun r V' => r = .bool true ∧ V.Le V' := by
  refine f6_x ?_
  unfold f6_n
  refine fun _ => joinP_cut (fun q V' => V.Le V' ∧ (q.1 = false → mayT t = true ∧ p.size ≤ 100 ∧ mayB n = true)) ((light15_ok h).mono ?_) ?_
  · rintro r V1 ⟨x, rfl, _, _, _, rfl⟩
    refine ⟨_, rfl, br_intro (fun _ => ⟨View.Le.refl _, fun h => absurd h (by decide)⟩) (fun _ => (mayTree_ok h).mono ?_)⟩
    rintro r V3 ⟨rfl, hV3⟩
    refine ⟨_, rfl, br_intro (fun _ => ⟨hV3, fun h => absurd h (by decide)⟩) (fun hb => (refName_ok hn').mono ?_)⟩
    rintro r V4 ⟨rfl, rfl⟩
    refine ⟨_, rfl, hV3, fun hq => ?_⟩
    cases hM : mayT t with
    | false => rw [hM] at hb; cases hb
    | true =>
      rw [hM] at hb
      have := of_decide_eq_false hb
      exact ⟨rfl, by omega, not_f hq⟩
  rintro ⟨q, ⟨⟩⟩ V1 ⟨hV1, hq⟩
  dsimp only [unc] at *
  refine br_intro (fun _ => awake19J hV1 (hg.mono hV1) fun V' hV => ⟨rfl, hV⟩) (fun hb => ?_)
  obtain ⟨hM, hp100, hmb⟩ := hq hb
  obtain ⟨hn1, hn8⟩ := mayB_size hmb
  refine (mkdir_ok (h.mono hV1) hp (hg.mono hV1)).mono ?_
  rintro r V2 ⟨⟨x2, e2, rfl, h2⟩, hV2⟩
  have q2 := hV1.trans hV2
  cases hu : makesT t p 2 with
  | error c =>
    rw [hu] at h2
    obtain ⟨rfl, hc0, h2⟩ := h2
    have hx0 : x2.n = 0 := h2.n
    refine ⟨x2, _, rfl, fun _ => br_intro (fun _ => joinP_cut (fun g V' => g.1 = true ∧ V.Le V') (br_intro (fun _ => awake19J q2 (hg.mono q2) fun V' hV => ⟨rfl, hV⟩) (fun h => absurd h (by rw [hx0]; decide))) ?_) (fun hb => absurd (of_decide_eq_true (not_f hb)) hc0)⟩
    rintro ⟨g, ⟨⟩⟩ V8 ⟨g1, g2⟩
    dsimp only [unc] at *
    exact ⟨by rw [g1], g2⟩
  | ok u =>
    obtain ⟨ld, d, sn, i, N⟩ := new_of (.inr rfl) hu
    rw [hu] at h2
    obtain ⟨rfl, h2⟩ := h2
    have hPu := N.par
    have hau : atI (entsT u d) sn = i := by rw [N.atD, if_pos rfl]
    have hki := N.kindI (.inr rfl)
    have hul : unlinkT u p [] = .error 10 := by
      unfold unlinkT
      rw [hPu.eq]; dsimp only
      rw [hau, if_neg (by omega), Int.toNat_natCast, if_pos hki]
    refine ⟨x2, _, rfl, fun _ => br_intro (fun hb => absurd hb (by decide)) (fun _ => (rmdir_ok h2 hp (hg.mono q2)).mono ?_)⟩
    rintro r V3 ⟨⟨x3, e3, rfl, h3⟩, hV3⟩
    rw [N.rmdir] at h3
    obtain ⟨rfl, h3⟩ := h3
    have q3 := q2.trans hV3
    refine ⟨x3, _, rfl, fun _ => joinP_cut (fun q V' => q.1 = false ∧ V' = V3) (br_intro (fun hb => absurd hb (by decide)) (fun _ => (refSameT_ok h3 (h.mono q3)).mono ?_)) ?_⟩
    · rintro r V4 ⟨rfl, rfl⟩
      exact ⟨_, rfl, by simp, rfl⟩
    rintro ⟨q, ⟨⟩⟩ V4 ⟨hq4, rfl⟩
    dsimp only [unc] at *
    subst hq4
    refine br_intro (fun h => absurd h (by decide)) (fun _ => (unlink_ok (held := []) (y := ⟨none, 0, 0⟩) (h2.mono hV3) (SlR.nil _ _ _) hp (hg.mono q3)).mono ?_)
    rintro r V5 ⟨⟨x5, e5, rfl, h5⟩, hV5⟩
    rw [hul] at h5
    obtain ⟨rfl, _⟩ := h5
    have q5 := q3.trans hV5
    have hsz : (p ++ ba [47]).size = p.size + 1 := by rw [ByteArray.size_append]; rfl
    have hszn : (p ++ ba [47] ++ n).size = p.size + 1 + n.size := by rw [ByteArray.size_append, hsz]
    have b1 : p.size + 1 ≤ 9223372036854775807 := by omega
    have b2 : (p ++ ba [47]).size + n.size ≤ 9223372036854775807 := by omega
    have hpl : (p ++ ba [47] ++ n).size ≤ 9223372036854775807 := by omega
    have hspl : splitP (p ++ ba [47] ++ n) = if mayB n = true ∧ (p ++ ba [47] ++ n).size ≤ 60 then some ((ld ++ [sn]) ++ [n]) else none := by
      rw [longer_eq N.P.split]; exact splitP_longer (mayB_no hmb) hn1 N.P.split
    refine ⟨x5, _, rfl, fun _ => ⟨b1, b2, (create_ok (p := p ++ ba [47] ++ n) ((h2.mono hV3).mono hV5) hpl (hg.mono q5)).mono ?_⟩⟩
    rintro r V6 ⟨⟨x6, e6, rfl, h6⟩, hV6⟩
    have q6 := q5.trans hV6
    cases hw : makesT u (p ++ ba [47] ++ n) 1 with
    | error c =>
      rw [hw] at h6
      obtain ⟨rfl, hc0, _⟩ := h6
      have hc : e6 = 14 ∨ e6 = 7 := by
        by_cases h60 : (p ++ ba [47] ++ n).size ≤ 60
        · left
          rw [if_pos ⟨hmb, h60⟩] at hspl
          have Q : Par u (p ++ ba [47] ++ n) (ld ++ [sn]) i n := ⟨N.may, hspl, by rw [goF_app hPu.go, goF_at hPu.kind, hau, if_neg (by omega), Int.toNat_natCast], hki⟩
          unfold makesT at hw
          rw [Q.eq] at hw
          dsimp only at hw
          rw [N.entsI (.inr rfl)] at hw
          rw [show atI [] n = -1 from rfl, if_neg (by decide)] at hw
          split at hw
          · cases hw; rfl
          · rw [if_neg (by decide)] at hw; cases hw
        · right
          rw [if_neg (fun h => h60 h.2)] at hspl
          unfold makesT parentT at hw
          rw [if_pos N.may] at hw
          have hl : lastP (p ++ ba [47] ++ n) = (ba [], ba [], 7) := by unfold lastP; rw [hspl]
          rw [hl] at hw
          dsimp only at hw
          rw [if_neg (by decide)] at hw
          cases hw; rfl
      refine ⟨x6, _, rfl, fun _ => br_intro (fun _ => joinP_cut (fun g V' => g.1 = true ∧ V.Le V') (br_intro (fun _ => awake19J q6 (hg.mono q6) fun V' hV => ⟨rfl, hV⟩) (fun hb => ?_)) ?_) (fun hb => absurd (of_decide_eq_true (not_f hb)) hc0)⟩
      · rcases hc with rfl | rfl <;> exact absurd hb (by decide)
      rintro ⟨g, ⟨⟩⟩ V8 ⟨g1, g2⟩
      dsimp only [unc] at *
      exact ⟨by rw [g1], g2⟩
    | ok w =>
      rw [hw] at h6
      obtain ⟨rfl, h6⟩ := h6
      obtain ⟨ld2, d2, n2, j, N2⟩ := new_of (.inl rfl) hw
      have h60 : (p ++ ba [47] ++ n).size ≤ 60 := (splitP_some N2.P.split).1
      rw [if_pos ⟨hmb, h60⟩] at hspl
      have Q : Par u (p ++ ba [47] ++ n) (ld ++ [sn]) i n := ⟨N.may, hspl, by rw [goF_app hPu.go, goF_at hPu.kind, hau, if_neg (by omega), Int.toNat_natCast], hki⟩
      obtain ⟨rfl, rfl, rfl⟩ := Q.uniq N2.P
      have hji := N2.id
      have hjd : d ≠ j := fun e => by
        have := N2.free
        rw [← e, hPu.kind] at this; cases this
      have hdi : d ≠ i := fun e => N.id e.symm
      have Pw : Par w p ld d sn := ⟨N2.may, N.P.split, N2.keep hPu.go, by rw [N2.kindO hjd]; exact hPu.kind⟩
      have hrm : rmdirT w p = .error 12 := by
        unfold rmdirT
        rw [Pw.eq]; dsimp only
        rw [N2.entsO hjd hdi, hau, if_neg (by omega), Int.toNat_natCast, if_neg (by rw [N2.kindO (fun e => hji e.symm)]; exact fun h => h hki), if_pos]
        rw [N2.entsD, ins_len]; omega
      refine ⟨x6, _, rfl, fun _ => br_intro (fun hb => absurd hb (by decide)) (fun _ => (rmdir_ok h6 hp (hg.mono q6)).mono ?_)⟩
      rintro r V7 ⟨⟨x7, e7, rfl, h7⟩, hV7⟩
      rw [hrm] at h7
      obtain ⟨rfl, _⟩ := h7
      have q7 := q6.trans hV7
      refine ⟨x7, _, rfl, fun _ => ⟨b1, b2, (unlink_ok (held := []) (y := ⟨none, 0, 0⟩) (p := p ++ ba [47] ++ n) (h6.mono hV7) (SlR.nil _ _ _) hpl (hg.mono q7)).mono ?_⟩⟩
      rintro r V8 ⟨⟨x8, e8, rfl, h8⟩, hV8⟩
      rw [N2.unlink] at h8
      obtain ⟨rfl, h8⟩ := h8
      have q8 := q7.trans hV8
      refine ⟨x8, _, rfl, fun _ => ⟨b1, b2, (dirFind_ok (p := p ++ ba [47] ++ n) ((h6.mono hV7).mono hV8) hpl (hg.mono q8)).mono ?_⟩⟩
      rintro r V9 ⟨rfl, hV9⟩
      rw [N2.find]
      have q9 := q8.trans hV9
      refine ⟨_, _, rfl, joinP_cut (fun g V' => g.1 = true ∧ V.Le V') (br_intro (fun _ => (refSameT_ok (h8.mono hV9) ((((((h2.mono hV3).mono hV5).mono hV6).mono hV7).mono hV8).mono hV9)).mono ?_) (fun h => absurd h (by decide))) ?_⟩
      · rintro r4 V10 ⟨rfl, rfl⟩
        exact ⟨_, rfl, br_intro (fun _ => awake19J q9 (hg.mono q9) fun V' hV => ⟨rfl, hV⟩) (fun h => absurd h (by simp))⟩
      rintro ⟨g, ⟨⟩⟩ V10 ⟨g1, g2⟩
      dsimp only [unc] at *
      exact ⟨by rw [g1], g2⟩
/-! ### as many as there are -/
def nameK (k : Nat) : ByteArray := ba [UInt8.ofNat (97 + k)]
def pathK (k : Nat) : ByteArray := ba [47, UInt8.ofNat (97 + k)]
def FT : Nat → Tre
  | 0 => firstT
  | k + 1 => (entT (FT k) 0 (insE (entsT (FT k) 0) ⟨nameK k, (k : Int) + 1⟩)).set (k + 1) (emptyN 1)
theorem ft_facts : ∀ k, k < 11 → atI (entsT (FT k) 0) (nameK k) = -1 ∧ (k < 10 → idxI (fun n => decide (n.kind = 0)) (FT k) = (k : Int) + 1) ∧ idxI (fun n => decide (n.kind = 0)) (FT k) = (k : Int) + 1 ∧ (entsT (FT k) 0).length = k ∧ kindT (FT k) 0 = 2 ∧ atI (entsT (FT k) 0) (ba [122]) = -1 ∧ atI (entsT (FT k) 0) (ba [97]) = (if k = 0 then -1 else 1) ∧ (1 ≤ k → kindT (FT k) 1 = 1) := by decide +kernel
theorem ft_more : ∀ k, k < 14 → splitP (pathK k) = some [nameK k] ∧ (10 ≤ k → atI (entsT (FT 10) 0) (nameK k) = -1) := by decide +kernel
theorem ft_next {k : Nat} (hk : k < 10) (hM : mayT (FT k) = true) : makesT (FT k) (pathK k) 1 = .ok (FT (k + 1)) := by
  obtain ⟨a1, _, a2, a3, a4, _⟩ := ft_facts k (by omega)
  obtain ⟨a5, _⟩ := ft_more k (by omega)
  have := makes_eq (k := 1) (t := FT k) (p := pathK k) (s := nameK k) (ld := []) (d := 0) ⟨hM, a5, rfl, a4⟩ (by rw [a1]; decide) a2 (by omega) (by omega)
  rw [this]
  show Except.ok (List.set _ ((k : Int) + 1).toNat _) = _
  rw [show ((k : Int) + 1).toNat = k + 1 by omega]; rfl
theorem ft_may : ∀ k, k ≤ 10 → mayT (FT k) = true
  | 0, _ => mayT_first
  | k + 1, h => makes_may (.inl rfl) (ft_next (by omega) (ft_may k (by omega)))
theorem ft_full {k : Nat} (h1 : 10 ≤ k) (h2 : k < 14) : makesT (FT 10) (pathK k) 1 = .error 14 := by
  obtain ⟨a5, a6⟩ := ft_more k h2
  obtain ⟨_, _, a2, a3, a4, _⟩ := ft_facts 10 (by omega)
  have P : Par (FT 10) (pathK k) [] 0 (nameK k) := ⟨ft_may 10 (by omega), a5, rfl, a4⟩
  unfold makesT
  rw [P.eq]; dsimp only
  rw [a6 h1, if_neg (by decide)]
  have hf : freeT (FT 10) = 11 := by unfold freeT; rw [if_pos (ft_may 10 (by omega)), a2]; rfl
  rw [hf, if_neg (by decide), if_pos (by omega)]
theorem ft_link {k : Nat} (hk : k ≤ 10) : ∃ o, linkT (FT k) (ba [47, 97]) (ba [47, 122]) = o ∧ (k = 0 → o = .error 8) ∧ (k = 10 → o = .error 14) ∧ (k ≠ 0 → k ≠ 10 → ∃ u, o = .ok u) := by
  obtain ⟨_, _, _, a3, a4, a5, a6, a7⟩ := ft_facts k (by omega)
  have hM := ft_may k hk
  have P : Par (FT k) (ba [47, 97]) [] 0 (ba [97]) := ⟨hM, by decide, rfl, a4⟩
  have Q : Par (FT k) (ba [47, 122]) [] 0 (ba [122]) := ⟨hM, by decide, rfl, a4⟩
  refine ⟨_, rfl, fun h => ?_, fun h => ?_, fun h1 h2 => ?_⟩
  · have : findT (FT k) (ba [47, 97]) = .error 8 := by rw [P.findAt, a6, if_pos h]; rfl
    unfold linkT; rw [this]
  · have hf : findT (FT k) (ba [47, 97]) = .ok 1 := P.found (by rw [a6, if_neg (by omega)]; rfl)
    unfold linkT; rw [hf]; dsimp only
    rw [if_neg (by rw [a7 (by omega)]; decide), Q.eq]; dsimp only
    rw [a5, if_neg (by decide), if_pos (by omega)]
  · have hf : findT (FT k) (ba [47, 97]) = .ok 1 := P.found (by rw [a6, if_neg (by omega)]; rfl)
    unfold linkT; rw [hf]; dsimp only
    rw [if_neg (by rw [a7 (by omega)]; decide), Q.eq]; dsimp only
    rw [a5, if_neg (by decide), if_neg (by omega)]
    exact ⟨_, rfl⟩
theorem mod14 (a : Int) : ∃ n : Nat, Int.tmod (IntKind.u64.wrap a) 14 = n ∧ n < 14 := by
  have h0 := wrap_u64_nn a
  have h1 := Int.tmod_nonneg (14 : Int) h0
  have h2 := Int.tmod_lt_of_pos (IntKind.u64.wrap a) (show (0 : Int) < 14 by decide)
  exact ⟨(Int.tmod (IntKind.u64.wrap a) 14).toNat, by omega, by omega⟩
theorem treeFull_ok {a : Int} {V : View} (hg : Glo V) : CallV Tryd.prog 4 ⟨[.int .i64 a]⟩ V fun r V' => r = .bool true ∧ V.Le V' := by
  refine f4_x ?_
  unfold f4_n
  obtain ⟨m, hm, hm14⟩ := mod14 a
  rw [hm]
  refine ⟨by decide, inI64 (by omega) (by omega), first_ok.mono ?_⟩
  rintro r V1 ⟨x, rfl, hx, hV1⟩
  refine ⟨x, rfl, fun _ => loop2 (k := .int .i64) (l := .sl) (fun (j : Int) (x : Sl) V' => V.Le V' ∧ ∃ i : Nat, j = i ∧ i ≤ m ∧ SlR V' x (FT (min i 10))) (fun (j : Int) _ _ => m - j.toNat) ⟨hV1, 0, rfl, by omega, hx⟩ ?_⟩
  rintro (j : Int) x V2 ⟨hV2, i, rfl, hi, hx2⟩
  refine br_intro (fun hlt => ?_) (fun hge => ?_)
  · have hlt : i < m := by have := of_decide_eq_true hlt; omega
    have hw : IntKind.wrap .u8 (97 + (i : Int)) = 97 + (i : Int) := wrap_u8 (by omega) (by omega)
    rw [hw]
    refine ⟨inI64 (by omega) (by omega), fun r hr => ⟨ba [UInt8.ofNat (97 + i)], ?_, (show 1 + 1 ≤ 9223372036854775807 by decide), ?_⟩⟩
    · have e : (putL [Value.int .u8 0] 0 [.int .u8 (97 + (i : Int))]) = bytesV (ba [UInt8.ofNat (97 + i)]) := by
        show [Value.int .u8 (97 + (i : Int))] = [Value.int .u8 ((UInt8.ofNat (97 + i)).toNat : Int)]
        rw [UInt8.toNat_ofNat', Nat.mod_eq_of_lt (by omega)]; congr 1
      rw [← e]
      exact rowAt_new (View.see_put_same _ _ _) rfl
    have hp := View.put_le (o := .cells ⟨putL [.int .u8 0] 0 [.int .u8 (97 + (i : Int))]⟩ 5 (0, 0)) (View.see_none_of_ge hr)
    have q3 := hV2.trans hp
    have hpk : ba [47] ++ ba [UInt8.ofNat (97 + i)] = pathK i := by rw [ba_append]; rfl
    have hpk2 : (ByteArray.mk #[47] : ByteArray) ++ ba [UInt8.ofNat (97 + i)] = pathK i := hpk
    rw [hpk2]
    refine (create_ok (p := pathK i) (hx2.mono hp) (show 2 ≤ 9223372036854775807 by decide) (hg.mono q3)).mono ?_
    rintro r V3 ⟨⟨x3, e3, rfl, h3⟩, hV3⟩
    have q4 := q3.trans hV3
    by_cases h10 : i < 10
    · rw [show min i 10 = i by omega] at h3 hx2
      rw [ft_next h10 (ft_may i (by omega))] at h3
      obtain ⟨rfl, h3⟩ := h3
      refine ⟨x3, _, rfl, fun _ => br_intro (fun hb => ?_) (fun _ => joinP_cut (fun q V' => V' = V3 ∧ q.1 = x3) (br_intro (fun _ => ⟨rfl, rfl⟩) (fun h => absurd h (by decide))) ?_)⟩
      · rw [decide_eq_true (show (i : Int) < 10 by omega)] at hb; cases hb
      · rintro ⟨q, ⟨⟩⟩ V4 ⟨rfl, hq⟩
        dsimp only [unc] at *
        subst hq
        refine ⟨inI64 (by omega) (by omega), ⟨q4, i + 1, by omega, by omega, ?_⟩, by omega⟩
        rw [show min (i + 1) 10 = i + 1 by omega]; exact h3
    · rw [show min i 10 = 10 by omega] at h3 hx2
      rw [ft_full (by omega) (by omega)] at h3
      obtain ⟨rfl, _⟩ := h3
      refine ⟨x3, _, rfl, fun _ => br_intro (fun hb => ?_) (fun _ => joinP_cut (fun q V' => V' = V3 ∧ q.1 = x) (br_intro (fun h => absurd h (by decide)) (fun _ => ⟨rfl, rfl⟩)) ?_)⟩
      · rw [decide_eq_false (show ¬ (i : Int) < 10 by omega)] at hb; cases hb
      · rintro ⟨q, ⟨⟩⟩ V4 ⟨rfl, hq⟩
        dsimp only [unc] at *
        subst hq
        refine ⟨inI64 (by omega) (by omega), ⟨q4, i + 1, by omega, by omega, ?_⟩, by omega⟩
        rw [show min (i + 1) 10 = 10 by omega]; exact (hx2.mono hp).mono hV3
  · have hge : i = m := by have := of_decide_eq_false hge; omega
    subst hge
    refine (link_ok (p := ba [47, 97]) (q := ba [47, 122]) hx2 (by decide) (by decide) (hg.mono hV2)).mono ?_
    rintro r V3 ⟨⟨x3, e3, rfl, h3⟩, hV3⟩
    have q3 := hV2.trans hV3
    obtain ⟨o, ho, o1, o2, o3⟩ := ft_link (k := min i 10) (by omega)
    rw [ho] at h3
    have he : e3 = if i = 0 then 8 else if 10 ≤ i then 14 else 0 := by
      by_cases h0 : i = 0
      · rw [if_pos h0]; rw [o1 (by omega)] at h3; exact h3.1
      · rw [if_neg h0]
        by_cases h1 : 10 ≤ i
        · rw [if_pos h1]; rw [o2 (by omega)] at h3; exact h3.1
        · rw [if_neg h1]
          obtain ⟨u, hu⟩ := o3 (by omega) (by omega)
          rw [hu] at h3; exact h3.1
    refine ⟨x3, e3, rfl, fun _ => joinP_cut (fun q V' => V' = V3 ∧ q.1 = e3) (br_intro (fun hb => ⟨rfl, ?_⟩) (fun hb => joinP_cut (fun q V' => V' = V3 ∧ q.1 = e3) (br_intro (fun hb2 => ⟨rfl, ?_⟩) (fun hb2 => ⟨rfl, ?_⟩)) ?_)) ?_⟩
    · have := of_decide_eq_true hb
      rw [he, if_pos (by omega)]
    · have := of_decide_eq_false hb; have := of_decide_eq_true hb2
      rw [he, if_neg (by omega), if_pos (by omega)]
    · have := of_decide_eq_false hb; have := of_decide_eq_false hb2
      rw [he, if_neg (by omega), if_neg (by omega)]
    · rintro ⟨q, ⟨⟩⟩ V4 hq; exact hq
    · rintro ⟨q, ⟨⟩⟩ V4 ⟨rfl, hq⟩
      dsimp only [unc] at *
      subst hq
      refine joinP_cut (fun g V' => g.1 = true ∧ V.Le V') (br_intro (fun _ => awake19J q3 (hg.mono q3) fun V' hV => ⟨rfl, hV⟩) (fun h => absurd h (by simp))) ?_
      rintro ⟨g, ⟨⟩⟩ V8 ⟨g1, g2⟩
      dsimp only [unc] at *
      exact ⟨by rw [g1], g2⟩
end Go.Proofs.YtdlgpolngnkiaaaDoor

/- What is found behind a rename: plain laws. -/
namespace Go.Proofs.YtdlgpolngnkiaaaDoor
open Go
section
variable {t u : Tre} {p q n r : ByteArray} {held : List Bool} {d f i : Nat} {ld lf : List ByteArray}
/-- The nodes behind a rename: who stood there, if anybody; the two directories; all others. -/
theorem Ren.get (R : Ren t p q held u d n ld f r lf i) : ∃ k : Nat, (0 ≤ atI (entsT t f) r → atI (entsT t f) r = k ∧ k ≠ f ∧ k ≠ d ∧ k ≠ i ∧ k < 12 ∧ entsT t k = []) ∧
    (∃ L, mayL L = true ∧ mayL (insE L ⟨r, i⟩) = true ∧ hasE L r = false ∧ (∀ s, s ≠ r → s ≠ n ∨ f ≠ d → atI L s = atI (entsT t f) s) ∧ (0 ≤ atI (entsT t f) r → L.length + 1 = (E1 t d n f).length) ∧ (¬ 0 ≤ atI (entsT t f) r → L = E1 t d n f) ∧
      ∀ j, u.getD j default = if j = f then { t.getD f default with ents := insE L ⟨r, i⟩ } else if j = d then { t.getD d default with ents := cutE (entsT t d) n } else if 0 ≤ atI (entsT t f) r ∧ j = k then lessN (t.getD k default) (heldB held k) else t.getD j default) := by
  have hF := mayF R.P.may
  have h12 := hF.len
  have hf := R.Q.d12; have hd := R.P.d12
  have hE1 := E1_may R.P R.Q
  have hmv := move_ents R.P R.Q (held := held) i
  have hne := R.ne
  have hh1 : hasE (E1 t d n f) r = decide (0 ≤ atI (entsT t f) r) := E1_has R.P R.Q (by rw [R.hi]; exact hne)
  obtain ⟨hi0, hi12, _⟩ := R.ent
  have hat1 : ∀ s, s ≠ n ∨ f ≠ d → atI (E1 t d n f) s = atI (entsT t f) s := by
    intro s hs
    unfold E1; split
    · rename_i e; subst e
      rw [atI_cut R.P.mayL, if_neg]
      rintro rfl
      rcases hs with h | h <;> exact h rfl
    · rfl
  have heq := R.eq
  have hroom := R.room
  rw [hmv] at hroom
  rw [hmv] at heq
  by_cases hk : 0 ≤ atI (entsT t f) r
  · obtain ⟨k, hk', hk0, hk12, hkf, hkd, hki, hemp, _⟩ := R.old hk
    rw [if_pos hk] at hroom heq
    rw [decide_eq_true hk] at hh1
    refine ⟨k, fun _ => ⟨hk', hkf, hkd, hki, hk12, hemp⟩, cutE (E1 t d n f) r, mayL_cut hE1 r, mayL_ins (mayL_cut hE1 r) (sole_of R.Q.sole hi0 hi12) (cut_has _ _) hroom, cut_has _ _, fun s hs1 hs2 => ?_, fun _ => cut_mayL_len hE1 hh1, fun h => absurd hk h, fun j => ?_⟩
    · rw [atI_cut hE1, if_neg (fun h => hs1 h.symm), hat1 s hs2]
    · rw [heq]
      unfold moveT
      rw [if_pos hk, hk', Int.toNat_natCast, entT_get (by rw [lessT_len, entT_len, entT_len]; omega), lessT_get (by rw [entT_len, entT_len]; omega), lessT_get (by rw [entT_len, entT_len]; omega)]
      have hkf' : f ≠ k := fun e => hkf e.symm
      by_cases h1 : j = f
      · subst h1
        rw [if_pos rfl, if_pos rfl, if_neg hkf', entT_get (by rw [entT_len]; omega), if_pos rfl, entT_get (by omega)]
        by_cases h2 : j = d
        · subst h2; rw [if_pos rfl]
        · rw [if_neg h2]
      rw [if_neg h1, if_neg h1]
      by_cases h2 : j = k
      · subst h2
        rw [if_pos rfl, if_neg hkd, if_pos ⟨by omega, rfl⟩, entT_get (by rw [entT_len]; omega), if_neg h1, entT_get (by omega), if_neg hkd]
      rw [if_neg h2, entT_get (by rw [entT_len]; omega), if_neg h1, entT_get (by omega)]
      by_cases h3 : j = d
      · subst h3; rw [if_pos rfl, if_pos rfl]
      · rw [if_neg h3, if_neg h3, if_neg (fun h => h2 h.2)]
  · rw [if_neg hk] at hroom heq
    rw [decide_eq_false hk] at hh1
    refine ⟨0, fun h => absurd h hk, E1 t d n f, hE1, mayL_ins hE1 (sole_of R.Q.sole hi0 hi12) hh1 hroom, hh1, fun s _ hs2 => hat1 s hs2, fun h => absurd h hk, fun _ => rfl, fun j => ?_⟩
    rw [heq]
    unfold moveT
    rw [if_neg hk, entT_get (by rw [entT_len]; omega)]
    by_cases h1 : j = f
    · subst h1
      rw [if_pos rfl, if_pos rfl, entT_get (by omega)]
      by_cases h2 : j = d
      · subst h2; rw [if_pos rfl]
      · rw [if_neg h2]
    rw [if_neg h1, if_neg h1, entT_get (by omega)]
    by_cases h3 : j = d
    · subst h3; rw [if_pos rfl, if_pos rfl]
    · rw [if_neg h3, if_neg h3, if_neg (fun h => hk h.1)]
theorem Ren.len (R : Ren t p q held u d n ld f r lf i) : u.length = 12 := (mayT_all R.may).1
/-- The directories are found as before. -/
theorem Ren.keep (R : Ren t p q held u d n ld f r lf i) {l : List ByteArray} {a z : Nat} (hg : goF t a l = .ok z) (h1 : ¬ Reach t i z) (h2 : 0 ≤ atI (entsT t f) r → ∀ k : Nat, atI (entsT t f) r = k → k ≠ z) : goF u a l = .ok z := by
  have hF := mayF R.P.may
  obtain ⟨k, hk, L, hL1, hL2, hL3, hL4, _, _, hget⟩ := R.get
  obtain ⟨hi0, hi12, _, x, hx, hxn, hxi⟩ := R.ent
  refine go_keep (A := fun y => y = i ∨ (0 ≤ atI (entsT t f) r ∧ y = k)) (fun p' e he hne => ?_) hg fun y hy hr => ?_
  · have hp := hF.ent he
    have hpk : ¬ (0 ≤ atI (entsT t f) r ∧ p' = k) := fun ⟨h, e2⟩ => by
      have := (hk h).2.2.2.2.2
      rw [e2, this] at he; cases he
    have hei : e.node.toNat ≠ i := fun h => hne (.inl h)
    have hnr : p' = f → e.name ≠ r := by
      rintro rfl hr
      by_cases h0 : 0 ≤ atI (entsT t p') r
      · apply hne; right
        refine ⟨h0, ?_⟩
        have := atI_at R.Q.mayL he
        rw [hr] at this
        have := (hk h0).1
        omega
      · have := atI_at R.Q.mayL he
        rw [hr] at this; omega
    have hnn : p' = d → e.name ≠ n := by
      rintro rfl hn
      have := ent_one hF he hx (hn.trans hxn.symm)
      rw [this, hxi] at hei; exact hei rfl
    refine ⟨?_, ?_⟩
    · unfold kindT; rw [hget]
      by_cases hpf : p' = f
      · rw [if_pos hpf]; exact R.Q.kind
      · rw [if_neg hpf]
        by_cases hpd : p' = d
        · rw [if_pos hpd]; exact R.P.kind
        · rw [if_neg hpd, if_neg hpk]; exact hp.2.1
    · unfold entsT; rw [hget]
      by_cases hpf : p' = f
      · subst hpf
        rw [if_pos rfl]
        show atI (insE L ⟨r, i⟩) e.name = _
        rw [atI_ins hL1 hL2, if_neg (fun h => hnr rfl h.symm)]
        refine hL4 _ (hnr rfl) ?_
        by_cases hpd : p' = d
        · exact .inl (hnn hpd)
        · exact .inr hpd
      · rw [if_neg hpf]
        by_cases hpd : p' = d
        · subst hpd
          rw [if_pos rfl]
          show atI (cutE (entsT t p') n) e.name = _
          rw [atI_cut R.P.mayL, if_neg (fun h => hnn rfl h.symm)]
        · rw [if_neg hpd, if_neg hpk]
  · rcases hy with rfl | ⟨h0, rfl⟩
    · exact h1 hr
    · have := (hk h0)
      exact h2 h0 y this.1 (reach_leaf this.2.2.2.2.2 hr).symm
theorem Ren.noD (R : Ren t p q held u d n ld f r lf i) : ¬ Reach t i d := by
  obtain ⟨_, _, _, x, hx, _, hxi⟩ := R.ent
  intro hr
  exact (mayF R.P.may).nocycle hx (by rw [hxi, Int.toNat_natCast]; exact hr)
theorem Ren.parQ (R : Ren t p q held u d n ld f r lf i) : Par u q lf f r := by
  obtain ⟨k, hk, L, _, _, _, _, _, _, hget⟩ := R.get
  refine ⟨R.may, R.Q.split, R.keep R.Q.go R.no fun h0 y hy => ?_, ?_⟩
  · have := hk h0; omega
  · unfold kindT; rw [hget, if_pos rfl]; exact R.Q.kind
theorem Ren.atQ (R : Ren t p q held u d n ld f r lf i) : atI (entsT u f) r = i := by
  obtain ⟨k, hk, L, h1, h2, _, _, _, _, hget⟩ := R.get
  unfold entsT; rw [hget, if_pos rfl]
  show atI (insE L ⟨r, i⟩) r = i
  rw [atI_ins h1 h2, if_pos rfl]
theorem Ren.find (R : Ren t p q held u d n ld f r lf i) : findT u q = .ok i := R.parQ.found R.atQ
theorem Ren.same (R : Ren t p q held u d n ld f r lf i) : u.getD i default = t.getD i default := by
  obtain ⟨k, hk, L, h1, h2, _, _, _, _, hget⟩ := R.get
  have hif : i ≠ f := fun e => R.no (by rw [e]; exact .refl)
  have hid : i ≠ d := fun e => R.noD (by rw [e]; exact .refl)
  rw [hget, if_neg hif, if_neg hid, if_neg]
  rintro ⟨h0, e⟩
  exact (hk h0).2.2.2.1 e.symm
/-- Back again: as it was, where nothing was there. -/
theorem Ren.back (R : Ren t p q held u d n ld f r lf i) (hno : ¬ 0 ≤ atI (entsT t f) r) : renameT u q p [] = .ok t := by
  have hF := mayF R.P.may
  have h12 := hF.len
  have hul := R.len
  have hf := R.Q.d12; have hd := R.P.d12
  obtain ⟨k, hk, L, hL1, hL2, hL3, _, _, hLE, hget⟩ := R.get
  have hLE := hLE hno
  subst hLE
  obtain ⟨hi0, hi12, _, x, hx, hxn, hxi⟩ := R.ent
  have hFu := mayF R.may
  have heF : entsT u f = insE (E1 t d n f) ⟨r, i⟩ := by unfold entsT; rw [hget, if_pos rfl]
  have hnr : f = d → n ≠ r := by
    rintro rfl rfl
    have := R.hi
    omega
  have hnin : atI (entsT u d) n = -1 := by
    by_cases e : f = d
    · subst e
      rw [heF, atI_ins hL1 hL2, if_neg (fun h => hnr rfl h.symm)]
      unfold E1; rw [if_pos rfl]
      exact atI_none (cut_has _ _)
    · unfold entsT; rw [hget, if_neg (fun h => e h.symm), if_pos rfl]
      exact atI_none (cut_has _ _)
  have Pd : Par u p ld d n := ⟨R.may, R.P.split, R.keep R.P.go R.noD fun h0 => absurd h0 hno, by
    unfold kindT; rw [hget]; split
    · exact R.Q.kind
    · rw [if_pos rfl]; exact R.P.kind⟩
  have hnoI : insideT u i d = false := by
    rw [insideT_iff R.may hi12 hd]
    cases hm : metB u i d with
    | false => simp
    | true =>
      exfalso
      have hr := metB_iff.1 hm
      have key : ∀ j, Reach u i j → Reach t i j := by
        intro j hr
        induction hr with
        | refl => exact .refl
        | @step p' e hp' he ih =>
          have he : e ∈ entsT u p' := he
          by_cases hpf : p' = f
          · subst hpf
            rw [heF] at he
            rcases ins_mem.1 he with rfl | he
            · simp only [Int.toNat_natCast]; exact .refl
            · refine .step ih ?_
              show e ∈ entsT t p'
              unfold E1 at he
              split at he
              · rename_i e2; subst e2; exact (cut_mem.1 he).1
              · exact he
          · refine .step ih ?_
            show e ∈ entsT t p'
            unfold entsT at he ⊢
            rw [hget, if_neg hpf] at he
            by_cases hpd : p' = d
            · subst hpd
              rw [if_pos rfl] at he
              exact (cut_mem.1 he).1
            · rw [if_neg hpd, if_neg (fun h => hno h.1)] at he; exact he
      exact R.noD (key d hr)
  have hcutE : cutE (insE (E1 t d n f) ⟨r, i⟩) r = E1 t d n f := cut_ins (x := ⟨r, i⟩) hL3
  -- what is left where it goes back
  have heD : entsT (entT u f (cutE (entsT u f) r)) d = cutE (entsT t d) n := by
    rw [entT_ents (by omega)]
    by_cases e : d = f
    · subst e
      rw [if_pos rfl, heF, hcutE]
      unfold E1; rw [if_pos rfl]
    · rw [if_neg e]
      unfold entsT; rw [hget, if_neg e, if_pos rfl]
  have hlenD : (cutE (entsT t d) n).length < 10 := by
    have h1 := cut_mayL_len R.P.mayL (s := n) (has_true.2 ⟨x, hx, hxn⟩)
    have h2 := mayL_len R.P.mayL
    omega
  unfold renameT
  rw [R.parQ.eq]; dsimp only
  rw [R.atQ, if_neg (by omega), Pd.eq]; dsimp only
  rw [hnin, if_neg (by omega), hnoI, if_neg (by decide), if_neg (fun h => absurd h.1 (by decide)), Int.toNat_natCast]
  have hm : moveT u f r i d n (-1) [] = entT u f (cutE (entsT u f) r) := by unfold moveT; rw [if_neg (by decide)]
  rw [hm, heD, if_neg (by omega)]
  have hins : insE (cutE (entsT t d) n) ⟨n, i⟩ = entsT t d := by
    have hxx : x = ⟨n, (i : Int)⟩ := by
      obtain ⟨a, b⟩ := x
      simp only at hxn hxi
      rw [hxn, hxi]
    have := ins_cut R.P.mayL hx
    rw [hxx] at this
    exact this
  rw [hins]
  congr 1
  refine ext_getD (by rw [entT_len, entT_len, hul, h12]) fun j _ => ?_
  rw [entT_get (by rw [entT_len]; omega), entT_get (by omega), entT_get (by omega), heF, hcutE, hget, hget, hget]
  by_cases h1 : j = d
  · subst h1
    rw [if_pos rfl]
    by_cases h2 : j = f
    · subst h2; rw [if_pos rfl, if_pos rfl]
    · rw [if_neg h2, if_neg h2, if_pos rfl]
  · rw [if_neg h1]
    by_cases h2 : j = f
    · subst h2
      rw [if_pos rfl, if_pos rfl]
      unfold E1
      rw [if_neg h1]
    · rw [if_neg h2, if_neg h2, if_neg h1, if_neg (fun h => hno h.1)]
end
end Go.Proofs.YtdlgpolngnkiaaaDoor

/- TreeRenames and TreeTakes answer true. -/
namespace Go.Proofs.YtdlgpolngnkiaaaDoor
open Go
theorem ren_none {t : Tre} {p q : ByteArray} {held : List Bool} (_hM : mayT t = true) {c : Int} (h : renameT t p q held = .error c) : c ≠ 0 := by
  unfold renameT at h
  cases hP : parentT t p with
  | error e => rw [hP] at h; cases h; exact par_err hP
  | ok z =>
    rw [hP] at h
    obtain ⟨d, n⟩ := z
    dsimp only at h
    by_cases h0 : atI (entsT t d) n < 0
    · rw [if_pos h0] at h; cases h; decide
    rw [if_neg h0] at h
    cases hQ : parentT t q with
    | error e => rw [hQ] at h; cases h; exact par_err hQ
    | ok z =>
      rw [hQ] at h
      obtain ⟨f, r⟩ := z
      dsimp only at h
      split at h
      · cases h
      · split at h
        · cases h; decide
        · split at h
          · rename_i hc
            have h := Except.error.inj h
            rw [← h]; exact hc.2
          · split at h
            · cases h; decide
            · cases h
theorem treeRenames_ok {s : Sl} {t : Tre} {p q : ByteArray} {V : View} (h : SlR V s t) (hp : p.size ≤ 9223372036854775807) (hq' : q.size ≤ 9223372036854775807) (hg : Glo V) : CallV Tryd.prog 3 ⟨[treV s, .string p, .string q]⟩ V fun r V' => r = .bool true ∧ V.Le V' := by
  refine f3_x ?_
  unfold f3_n
  have hn := h.n
  refine fun _ => joinP_cut (fun q V' => V.Le V' ∧ (q.1 = false → mayT t = true)) ((light15_ok h).mono ?_) ?_
  · rintro r V1 ⟨x, rfl, _, _, _, rfl⟩
    refine ⟨_, rfl, br_intro (fun _ => ⟨View.Le.refl _, fun h => absurd h (by decide)⟩) (fun _ => (mayTree_ok h).mono ?_)⟩
    rintro r V3 ⟨rfl, hV3⟩
    exact ⟨_, rfl, br_intro (fun _ => ⟨hV3, fun h => absurd h (by decide)⟩) (fun hb => ⟨hV3, fun _ => not_f hb⟩)⟩
  rintro ⟨z, ⟨⟩⟩ V1 ⟨hV1, hz⟩
  dsimp only [unc] at *
  refine br_intro (fun _ => awake19J hV1 (hg.mono hV1) fun V' hV => ⟨rfl, hV⟩) (fun hb => ?_)
  have hM := hz hb
  have h12 := (mayT_all hM).1
  refine (dirFind_ok (h.mono hV1) hp (hg.mono hV1)).mono ?_
  rintro r V2 ⟨rfl, hV2⟩
  have q2 := hV1.trans hV2
  obtain ⟨i0, e0, hF1, hF1'⟩ : ∃ i0 e0 : Int, outF (findT t p) = .tuple ⟨[.int .i64 i0, .int .i64 e0]⟩ ∧ ((∃ i : Nat, findT t p = .ok i ∧ i0 = i ∧ e0 = 0) ∨ (findT t p = .error e0 ∧ e0 ≠ 0 ∧ i0 = 0)) := by
    cases hf : findT t p with
    | error e => exact ⟨_, _, rfl, .inr ⟨rfl, ends_only hf, rfl⟩⟩
    | ok i => exact ⟨_, _, rfl, .inl ⟨i, rfl, rfl, rfl⟩⟩
  rw [hF1]
  refine ⟨i0, e0, rfl, (dirFind_ok (h.mono q2) hq' (hg.mono q2)).mono ?_⟩
  rintro r V3 ⟨rfl, hV3⟩
  have q3 := q2.trans hV3
  obtain ⟨i1, e1, hF2, hF2'⟩ : ∃ i0 e0 : Int, outF (findT t q) = .tuple ⟨[.int .i64 i0, .int .i64 e0]⟩ ∧ ((∃ i : Nat, findT t q = .ok i ∧ i0 = i ∧ e0 = 0) ∨ (findT t q = .error e0 ∧ e0 ≠ 0 ∧ i0 = 0)) := by
    cases hf : findT t q with
    | error e => exact ⟨_, _, rfl, .inr ⟨rfl, ends_only hf, rfl⟩⟩
    | ok i => exact ⟨_, _, rfl, .inl ⟨i, rfl, rfl, rfl⟩⟩
  rw [hF2]
  refine ⟨i1, e1, rfl, (rename_ok (held := []) (y := ⟨none, 0, 0⟩) (h.mono q3) (SlR.nil _ _ _) hp hq' (hg.mono q3)).mono ?_⟩
  rintro r V4 ⟨⟨x4, e4, rfl, h4⟩, hV4⟩
  have q4 := q3.trans hV4
  cases hr : renameT t p q [] with
  | error c =>
    rw [hr] at h4
    obtain ⟨rfl, hc0, h4⟩ := h4
    have hx0 : x4.n = 0 := h4.n
    refine ⟨x4, _, rfl, fun _ => br_intro (fun _ => joinP_cut (fun g V' => g.1 = true ∧ V.Le V') (br_intro (fun _ => awake19J q4 (hg.mono q4) fun V' hV => ⟨rfl, hV⟩) (fun h => absurd h (by rw [hx0]; decide))) ?_) (fun hb => absurd (of_decide_eq_true (not_f hb)) hc0)⟩
    rintro ⟨g, ⟨⟩⟩ V8 ⟨g1, g2⟩
    dsimp only [unc] at *
    exact ⟨by rw [g1], g2⟩
  | ok u =>
    rw [hr] at h4
    obtain ⟨rfl, h4⟩ := h4
    -- what is known of it
    obtain ⟨i, hi12, hf1, hf2, hsame, hback⟩ : ∃ i : Nat, i < 12 ∧ findT t p = .ok i ∧ findT u q = .ok i ∧ u.getD i default = t.getD i default ∧ (e1 ≠ 0 → renameT u q p [] = .ok t) := by
      rcases ren_of hr with ⟨rfl, ld, d, n, lf, f, r, P, Q, h0, h1⟩ | ⟨d, n, ld, f, r, lf, i, R⟩
      · obtain ⟨_, k1, k2, _⟩ := at_kind hM (d := d) (s := n) (by omega)
        have a1 : atI (entsT u d) n = ((atI (entsT u d) n).toNat : Nat) := by omega
        have a2 : findT u q = .ok (atI (entsT u d) n).toNat := Q.found (by rw [h1]; exact a1)
        refine ⟨(atI (entsT u d) n).toNat, by omega, P.found a1, a2, rfl, fun he => ?_⟩
        rcases hF2' with ⟨j, _, _, h⟩ | ⟨h, _⟩
        · exact absurd h he
        · rw [a2] at h; cases h
      · obtain ⟨hi0, hi12, _⟩ := R.ent
        refine ⟨i, hi12, R.P.found R.hi, R.find, R.same, fun he => R.back fun hk => ?_⟩
        rcases hF2' with ⟨j, _, _, h⟩ | ⟨h, _⟩
        · exact absurd h he
        · rw [R.Q.findAt, if_neg (by omega)] at h; cases h
    have hMu := rename_may hr
    have hul := (mayT_all hMu).1
    have hx4 := h4.n
    obtain ⟨rfl, rfl⟩ : i0 = i ∧ e0 = 0 := by
      rcases hF1' with ⟨j, h1, h2, h3⟩ | ⟨h1, _⟩
      · rw [hf1] at h1; cases h1; exact ⟨h2, h3⟩
      · rw [hf1] at h1; cases h1
    refine ⟨x4, _, rfl, fun _ => br_intro (fun hb => absurd hb (by decide)) (fun _ => (dirFind_ok h4 hq' (hg.mono q4)).mono ?_)⟩
    rintro r V5 ⟨rfl, hV5⟩
    rw [hf2]
    have q5 := q4.trans hV5
    refine ⟨_, _, rfl, joinP_cut (fun g V' => g.1 = false ∧ V' = V5) ⟨trivial, V5, View.Le.refl _, br_intro (fun hb => ?_) (fun _ => ?_)⟩ ?_⟩
    · exfalso
      rw [decide_eq_true rfl, decide_eq_true rfl, decide_eq_false (show ¬ (i : Int) < 0 by omega), decide_eq_false (show ¬ (x4.n : Int) ≤ i by omega), decide_eq_false (show ¬ (s.n : Int) ≤ i by omega)] at hb
      simp at hb
    · obtain ⟨ad5, sq5, en5, ha5, hc5, hN5⟩ := (h4.mono hV5).nodN (i := i) (by omega)
      obtain ⟨ad6, sq6, en6, ha6, hc6, hN6⟩ := (h.mono q5).nodN (i := i) (by omega)
      rw [hsame] at hc5 hN5
      refine ⟨by omega, by omega, ad5, ha5, _, _, _, sq5, en5, hc5, by omega, by omega, ad6, ha6, _, _, _, sq6, en6, hc6, (refSameN_ok hN5 hN6).mono ?_⟩
      rintro r V6 ⟨rfl, rfl⟩
      exact ⟨_, rfl, View.Le.refl _, V6, View.Le.refl _, View.Le.refl _, br_intro (fun hb => absurd hb (by simp)) (fun _ => ⟨rfl, rfl⟩)⟩
    rintro ⟨g, ⟨⟩⟩ V6 ⟨hg6, rfl⟩
    dsimp only [unc] at *
    subst hg6
    refine br_intro (fun h => absurd h (by decide)) (fun _ => br_intro (fun _ => awake19J q5 (hg.mono q5) fun V' hV => ⟨rfl, hV⟩) (fun he => ?_))
    have he := of_decide_eq_false he
    refine (rename_ok (held := []) (y := ⟨none, 0, 0⟩) (h4.mono hV5) (SlR.nil _ _ _) hq' hp (hg.mono q5)).mono ?_
    rintro r V7 ⟨⟨x7, e7, rfl, h7⟩, hV7⟩
    rw [hback he] at h7
    obtain ⟨rfl, h7⟩ := h7
    have q7 := q5.trans hV7
    refine ⟨x7, _, rfl, fun _ => joinP_cut (fun g V' => g.1 = true ∧ V.Le V') (br_intro (fun _ => (refSameT_ok h7 (h.mono q7)).mono ?_) (fun h => absurd h (by decide))) ?_⟩
    · rintro r4 V9 ⟨rfl, rfl⟩
      exact ⟨_, rfl, br_intro (fun _ => awake19J q7 (hg.mono q7) fun V' hV => ⟨rfl, hV⟩) (fun h => absurd h (by simp))⟩
    rintro ⟨g, ⟨⟩⟩ V9 ⟨g1, g2⟩
    dsimp only [unc] at *
    exact ⟨by rw [g1], g2⟩
/-! ### what stood there is gone -/
theorem lenE_set : ∀ {t : Tre} {k : Nat} {n : Nod}, k < t.length → (allE (t.set k n)).length + (entsT t k).length = (allE t).length + n.ents.length
  | [], _, _, h => absurd h (by simp)
  | m :: t, 0, n, _ => by
    show (allE (n :: t)).length + m.ents.length = _
    rw [allE_cons, allE_cons, List.length_append, List.length_append]; omega
  | m :: t, k + 1, n, h => by
    have ih := lenE_set (t := t) (k := k) (n := n) (by simpa using h)
    show (allE (m :: t.set k n)).length + (entsT t k).length = _
    rw [allE_cons, allE_cons, List.length_append, List.length_append]; omega
theorem lenE_ent {t : Tre} {d : Nat} {l : List Ent} (hd : d < t.length) : (allE (entT t d l)).length + (entsT t d).length = (allE t).length + l.length := lenE_set (n := { t.getD d default with ents := l }) hd
section
variable {t u : Tre} {p q n r : ByteArray} {d f i : Nat} {ld lf : List ByteArray}
theorem Ren.names (R : Ren t p q [] u d n ld f r lf i) {k : Nat} (hk : atI (entsT t f) r = k) : (allE u).length + 1 = (allE t).length := by
  have h12 := (mayT_all R.P.may).1
  have hf := R.Q.d12; have hd := R.P.d12
  obtain ⟨k', hk', hk0, hk12, hkf, hkd, hki, hemp, _⟩ := R.old (by omega)
  have : k' = k := by omega
  subst this
  obtain ⟨hi0, hi12, _, x, hx, hxn, hxi⟩ := R.ent
  have a1 := lenE_ent (t := t) (d := d) (l := cutE (entsT t d) n) (by omega)
  have a2 := cut_mayL_len R.P.mayL (s := n) (has_true.2 ⟨x, hx, hxn⟩)
  have e1 : entsT (entT t d (cutE (entsT t d) n)) f = E1 t d n f := by rw [entT_ents (by omega)]; rfl
  have a3 := lenE_ent (t := entT t d (cutE (entsT t d) n)) (d := f) (l := cutE (E1 t d n f) r) (by rw [entT_len]; omega)
  rw [e1] at a3
  have hne := R.ne
  have a4 := cut_mayL_len (E1_may R.P R.Q) (s := r) (by rw [E1_has R.P R.Q (by rw [R.hi]; exact hne), decide_eq_true (by omega)])
  have hm : moveT t d n i f r (atI (entsT t f) r) [] = lessT (entT (entT t d (cutE (entsT t d) n)) f (cutE (E1 t d n f) r)) k' [] := by
    unfold moveT
    rw [if_pos (by omega), e1, hk, Int.toNat_natCast]
  have a5 : (allE (moveT t d n i f r (atI (entsT t f) r) [])).length = (allE (entT (entT t d (cutE (entsT t d) n)) f (cutE (E1 t d n f) r))).length := by
    rw [hm]
    have hz : ∀ m : Nod, m.ents = [] → (allE ((entT (entT t d (cutE (entsT t d) n)) f (cutE (E1 t d n f) r)).set k' m)).length = (allE (entT (entT t d (cutE (entsT t d) n)) f (cutE (E1 t d n f) r))).length := by
      intro m hm
      have h1 := lenE_set (t := entT (entT t d (cutE (entsT t d) n)) f (cutE (E1 t d n f) r)) (k := k') (n := m) (by rw [entT_len, entT_len]; omega)
      have h2 : entsT (entT (entT t d (cutE (entsT t d) n)) f (cutE (E1 t d n f) r)) k' = [] := by
        rw [entT_ents (by rw [entT_len]; omega), if_neg hkf, entT_ents (by omega), if_neg hkd]; exact hemp
      rw [h2, hm] at h1
      simpa using h1
    unfold lessT
    split
    · refine hz _ ?_
      show ((entT (entT t d (cutE (entsT t d) n)) f (cutE (E1 t d n f) r)).getD k' default).ents = []
      rw [entT_at hkf, entT_at hkd]; exact hemp
    · exact hz _ rfl
  have a6 := lenE_ent (t := moveT t d n i f r (atI (entsT t f) r) []) (d := f) (l := insE (entsT (moveT t d n i f r (atI (entsT t f) r) []) f) ⟨r, i⟩) (by rw [move_len]; omega)
  rw [ins_len] at a6
  rw [← R.eq] at a6
  omega
theorem Ren.lost (R : Ren t p q [] u d n ld f r lf i) {k : Nat} (hk : atI (entsT t f) r = k) : (u.getD k default).links = (t.getD k default).links - 1 := by
  have hF := mayF R.P.may
  obtain ⟨k', hk', hk0, hk12, hkf, hkd, hki, hemp, _, hkk, y, hy, hyn, hyi⟩ := R.old (by omega)
  have : k' = k := by omega
  subst this
  obtain ⟨k2, hk2, L, _, _, _, _, _, _, hget⟩ := R.get
  have := (hk2 (by omega)).1
  have : k2 = k' := by omega
  subst this
  rw [hget, if_neg hkf, if_neg hkd, if_pos ⟨by omega, rfl⟩, heldNil]
  have h1 : 1 ≤ namedT t (k2 : Int) := named_one hy hyi
  unfold lessN
  split
  · rfl
  · rename_i hc
    show (0 : Int) = _
    rcases hkk with hkk | hkk
    · have := hF.file k2 hk12 hkk
      have hkk : (t.getD k2 default).kind = 1 := hkk
      have : ¬ 0 < (t.getD k2 default).links - 1 := fun h => hc ⟨hkk, .inl h⟩
      omega
    · have hm := hF.at hk12
      have hkk : (t.getD k2 default).kind = 2 := hkk
      unfold mayN at hm
      rw [if_neg (by omega), if_neg (by omega), if_pos hkk] at hm
      simp only [Bool.and_eq_true, decide_eq_true_eq] at hm
      omega
end
theorem takes_err {t : Tre} {p q n r : ByteArray} {ld lf : List ByteArray} {d f i k : Nat} (P : Par t p ld d n) (Q : Par t q lf f r) (hi : atI (entsT t d) n = i) (hk : atI (entsT t f) r = k) (hik : i ≠ k) {c : Int} (h : renameT t p q [] = .error c) :
    (c = 17 ∧ kindT t i = 2) ∨ (c = 11 ∧ kindT t i = 2 ∧ kindT t k = 1) ∨ (c = 10 ∧ kindT t i = 1 ∧ kindT t k = 2) ∨ (c = 12 ∧ 0 < (entsT t k).length) := by
  have hF := mayF P.may
  obtain ⟨_, i1, i2, i3, _⟩ := at_kind P.may (d := d) (s := n) (by omega)
  obtain ⟨_, k1, k2, k3, _⟩ := at_kind P.may (d := f) (s := r) (by omega)
  rw [hi] at i1 i2 i3
  rw [hk] at k1 k2 k3
  rw [Int.toNat_natCast] at i3 k3
  have ki := kind_of (hF.at (i := i) (by omega))
  have kk := kind_of (hF.at (i := k) (by omega))
  unfold renameT at h
  rw [P.eq] at h; dsimp only at h
  rw [hi, if_neg (by omega), Q.eq] at h; dsimp only at h
  rw [hk, if_neg (by omega)] at h
  by_cases hin : insideT t i f = true
  · rw [if_pos hin] at h; cases h
    left
    refine ⟨rfl, ?_⟩
    unfold insideT at hin
    simp only [Bool.and_eq_true, decide_eq_true_eq] at hin
    have := hin.1.2
    rwa [Int.toNat_natCast] at this
  rw [if_neg hin] at h
  by_cases hr : (0 : Int) ≤ k ∧ replN (t.getD ((i : Int)).toNat default) (t.getD ((k : Int)).toNat default) ≠ 0
  · rw [if_pos hr] at h
    right
    have h := Except.error.inj h
    rw [Int.toNat_natCast, Int.toNat_natCast] at h hr
    unfold replN at h hr
    have i3 : (t.getD i default).kind ≠ 0 := i3
    have k3 : (t.getD k default).kind ≠ 0 := k3
    by_cases b1 : (t.getD i default).kind = 2 ∧ (t.getD k default).kind ≠ 2
    · rw [if_pos b1] at h
      exact .inl ⟨h.symm, b1.1, by show (t.getD k default).kind = 1; omega⟩
    rw [if_neg b1] at h hr
    by_cases b2 : (t.getD i default).kind ≠ 2 ∧ (t.getD k default).kind = 2
    · rw [if_pos b2] at h
      exact .inr (.inl ⟨h.symm, by show (t.getD i default).kind = 1; omega, b2.2⟩)
    rw [if_neg b2] at h hr
    by_cases b3 : 0 < (t.getD k default).ents.length
    · rw [if_pos b3] at h
      exact .inr (.inr ⟨h.symm, b3⟩)
    rw [if_neg b3] at hr
    exact absurd rfl hr.2
  · rw [if_neg hr] at h
    exfalso
    rw [Int.toNat_natCast] at h
    have hmv := move_ents P Q (held := []) i
    rw [hk, if_pos (by omega)] at hmv
    have a4 := cut_mayL_len (E1_may P Q) (s := r) (by rw [E1_has P Q (by rw [hi, hk]; omega), hk, decide_eq_true (by omega)])
    have a5 := mayL_len (E1_may P Q)
    rw [hmv, if_neg (by omega)] at h
    cases h
end Go.Proofs.YtdlgpolngnkiaaaDoor
