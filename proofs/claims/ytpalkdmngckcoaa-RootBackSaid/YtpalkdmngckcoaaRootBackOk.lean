/- RootBack: what is written is read as it was. -/
import Derived.Test.YtpalkdmngckcoaaRootCutOk
import Derived.Test.YtpalkdmngckcoaaDrFast
namespace Go.Proofs.Ytpalkdmngckcoaa
open Go
theorem refInts_ok {s t : Sl} {l m : List Int} {V : View} (h : SlR V s l) (k : SlR V t m) : CallV Try.prog 68 ⟨[.slice s.a s.n s.c, .slice t.a t.n t.c]⟩ V fun r V' => r = .bool (decide (l = m)) ∧ V' = V := by
  refine f68_x ?_
  unfold f68_n
  have hn := h.n; have hlim := h.lim; have kn := k.n
  refine br_intro (fun hne => ⟨?_, rfl⟩) (fun heq => ?_)
  · have hne : ¬ (s.n : Int) = t.n := by simpa using hne
    rw [decide_eq_false]
    intro e; subst e; omega
  have heq : (s.n : Int) = t.n := by simpa using heq
  refine loop1 (k := .int .i64) (fun (x : Int) V' => V' = V ∧ 0 ≤ x ∧ x ≤ s.n ∧ l.take x.toNat = m.take x.toNat) (fun (x : Int) _ => s.n - x.toNat) ⟨rfl, by omega, by omega, rfl⟩ ?_
  rintro (x : Int) V' ⟨rfl, h0, h1, h2⟩
  refine br_intro (fun hlt => ?_) (fun hge => ?_)
  · have hlt : x < s.n := by simpa using hlt
    obtain ⟨ad, hx, ha, hc, _⟩ := h.int h0 hlt
    obtain ⟨ad', hx', ha', hc', _⟩ := k.int h0 (by omega)
    refine ⟨trivial, V', View.Le.refl _, h0, hlt, ad, ha, _, hc, h0, by omega, ad', ha', _, hc', br_intro (fun hb => ⟨?_, rfl⟩) (fun hb => ⟨inI64 (by omega) (by omega), ⟨rfl, by omega, by omega, ?_⟩, by omega⟩)⟩
    · have hb : ¬ l[x.toNat] = m[x.toNat] := by simpa using hb
      rw [decide_eq_false]
      intro e; subst e; exact hb rfl
    · have hb : l[x.toNat] = m[x.toNat] := by simpa using hb
      rw [show (x + 1).toNat = x.toNat + 1 by omega, List.take_add_one, List.take_add_one, h2, List.getElem?_eq_getElem hx, List.getElem?_eq_getElem hx', hb]
  · have hge : ¬ x < s.n := by simpa using hge
    rw [List.take_of_length_le (by omega), List.take_of_length_le (by omega)] at h2
    exact ⟨by rw [h2]; simp, rfl⟩
theorem refEnts_ok {s t : Sl} {l m : List Ent} {V : View} (h : SlR V s l) (k : SlR V t m) : CallV Try.prog 69 ⟨[.slice s.a s.n s.c, .slice t.a t.n t.c]⟩ V fun r V' => r = .bool (decide (l = m)) ∧ V' = V := by
  refine f69_x ?_
  unfold f69_n
  have hn := h.n; have hlim := h.lim; have kn := k.n
  refine br_intro (fun hne => ⟨?_, rfl⟩) (fun heq => ?_)
  · have hne : ¬ (s.n : Int) = t.n := by simpa using hne
    rw [decide_eq_false]
    intro e; subst e; omega
  have heq : (s.n : Int) = t.n := by simpa using heq
  refine loop1 (k := .int .i64) (fun (x : Int) V' => V' = V ∧ 0 ≤ x ∧ x ≤ s.n ∧ l.take x.toNat = m.take x.toNat) (fun (x : Int) _ => s.n - x.toNat) ⟨rfl, by omega, by omega, rfl⟩ ?_
  rintro (x : Int) V' ⟨rfl, h0, h1, h2⟩
  refine br_intro (fun hlt => ?_) (fun hge => ?_)
  · have hlt : x < s.n := by simpa using hlt
    obtain ⟨ad, hx, ha, hc, _⟩ := h.ent h0 hlt
    obtain ⟨ad', hx', ha', hc', _⟩ := k.ent h0 (by omega)
    refine ⟨trivial, V', View.Le.refl _, h0, hlt, ad, ha, _, _, hc, h0, by omega, ad', ha', _, _, hc', trivial, ?_⟩
    rw [ent_eq]
    refine br_intro (fun hb => ⟨?_, rfl⟩) (fun hb => ⟨inI64 (by omega) (by omega), ⟨rfl, by omega, by omega, ?_⟩, by omega⟩)
    · have hb : ¬ l[x.toNat] = m[x.toNat] := by simpa using hb
      rw [decide_eq_false]
      intro e; subst e; exact hb rfl
    · have hb : l[x.toNat] = m[x.toNat] := by simpa using hb
      rw [show (x + 1).toNat = x.toNat + 1 by omega, List.take_add_one, List.take_add_one, h2, List.getElem?_eq_getElem hx, List.getElem?_eq_getElem hx', hb]
  · have hge : ¬ x < s.n := by simpa using hge
    rw [List.take_of_length_le (by omega), List.take_of_length_le (by omega)] at h2
    exact ⟨by rw [h2]; simp, rfl⟩
theorem refSameN_ok {a b : Nod} {s e s' e' : Sl} {V : View} (h : NodR V s e a) (k : NodR V s' e' b) : CallV Try.prog 46 ⟨[nodV a s e, nodV b s' e']⟩ V fun r V' => r = .bool (decide (a = b)) ∧ V' = V := by
  refine f46_x ?_
  unfold f46_n
  rw [nod_eq]
  refine fun _ _ => joinP_cut (fun q V' => q.1 = (decide (a.kind = b.kind) && decide (a.links = b.links) && decide (a.size = b.size) && (decide (a.seqs = b.seqs) && decide (a.ents = b.ents))) ∧ V' = V) (br_intro (fun hb => (refInts_ok h.seqs k.seqs).mono ?_) (fun hb => ⟨?_, rfl⟩)) ?_
  · have hb : (decide (a.kind = b.kind) && decide (a.links = b.links) && decide (a.size = b.size)) = true := by
      cases h1 : decide (a.kind = b.kind) <;> cases h2 : decide (a.links = b.links) <;> cases h3 : decide (a.size = b.size) <;> simp_all
    rw [hb]
    rintro r V1 ⟨rfl, rfl⟩
    refine ⟨_, rfl, br_intro (fun h1 => (refEnts_ok h.ents k.ents).mono ?_) (fun h1 => ⟨by rw [h1]; rfl, rfl⟩)⟩
    rintro r V2 ⟨rfl, rfl⟩
    exact ⟨_, rfl, by rw [h1]; rfl, rfl⟩
  · have hb : (decide (a.kind = b.kind) && decide (a.links = b.links) && decide (a.size = b.size)) = false := by
      cases h1 : decide (a.kind = b.kind) <;> cases h2 : decide (a.links = b.links) <;> cases h3 : decide (a.size = b.size) <;> simp_all
    rw [hb]; rfl
  · rintro ⟨q, ⟨⟩⟩ V1 ⟨h1, hV⟩
    simp only at h1 hV
    subst h1 hV
    exact ⟨rfl, rfl⟩
theorem refSameT_ok {s t : Sl} {l m : Tre} {V : View} (h : SlR V s l) (k : SlR V t m) : CallV Try.prog 16 ⟨[treV s, treV t]⟩ V fun r V' => r = .bool (decide (l = m)) ∧ V' = V := by
  refine f16_x ?_
  unfold f16_n
  have hn := h.n; have hlim := h.lim; have kn := k.n
  refine fun _ _ => br_intro (fun hne => ⟨?_, rfl⟩) (fun heq => ?_)
  · have hne : ¬ (s.n : Int) = t.n := by simpa using hne
    rw [decide_eq_false]
    intro e; subst e; omega
  have heq : (s.n : Int) = t.n := by simpa using heq
  refine loop1 (k := .int .i64) (fun (x : Int) V' => V' = V ∧ 0 ≤ x ∧ x ≤ s.n ∧ l.take x.toNat = m.take x.toNat) (fun (x : Int) _ => s.n - x.toNat) ⟨rfl, by omega, by omega, rfl⟩ ?_
  rintro (x : Int) V' ⟨rfl, h0, h1, h2⟩
  refine br_intro (fun hlt => ?_) (fun hge => ?_)
  · have hlt : x < s.n := by simpa using hlt
    obtain ⟨ad, sq, en, hx, ha, hc, hN⟩ := h.nod h0 hlt
    obtain ⟨ad', sq', en', hx', ha', hc', hN'⟩ := k.nod h0 (by omega)
    refine ⟨trivial, V', View.Le.refl _, h0, hlt, ad, ha, _, _, _, sq, en, hc, h0, by omega, ad', ha', _, _, _, sq', en', hc', (refSameN_ok hN hN').mono ?_⟩
    rintro r V1 ⟨rfl, rfl⟩
    refine ⟨_, rfl, br_intro (fun hb => ⟨?_, rfl⟩) (fun hb => ⟨inI64 (by omega) (by omega), ⟨rfl, by omega, by omega, ?_⟩, by omega⟩)⟩
    · have hb : ¬ l[x.toNat] = m[x.toNat] := of_decide_eq_false (not_t hb)
      rw [decide_eq_false]
      intro e; subst e; exact hb rfl
    · have hb : l[x.toNat] = m[x.toNat] := of_decide_eq_true (not_f hb)
      rw [show (x + 1).toNat = x.toNat + 1 by omega, List.take_add_one, List.take_add_one, h2, List.getElem?_eq_getElem hx, List.getElem?_eq_getElem hx', hb]
  · have hge : ¬ x < s.n := by simpa using hge
    rw [List.take_of_length_le (by omega), List.take_of_length_le (by omega)] at h2
    exact ⟨by rw [h2]; simp, rfl⟩
/-! ### sheets -/
theorem numL_small {n : Nat} (h : n < 128) : (numL n).length = 1 := by
  have : n / 128 = 0 := Nat.div_eq_of_lt h
  unfold numL
  rw [this]
  rfl
theorem numI_small {n : Int} (h0 : 0 ≤ n) (h : n < 128) : (numI n).length = 1 := by
  unfold numI
  exact numL_small (by unfold clampN; omega)
theorem numI_six (n : Int) : (numI n).length ≤ 6 := by
  unfold numI numL
  have := hi_len5 (clampN_le n)
  simp only [List.length_append, List.length_cons, List.length_nil]
  omega
theorem numsL_six : ∀ l : List Int, (numsL l).length ≤ 6 * l.length
  | [] => by simp [numsL]
  | n :: l => by
    have h1 := numsL_six l
    have h2 := numI_six n
    have e : numsL (n :: l) = numI n ++ numsL l := by simp [numsL]
    rw [e, List.length_append, List.length_cons]; omega
theorem encE_ten {x : Ent} (h8 : x.name.size ≤ 8) (h0 : 0 ≤ x.node) (h1 : x.node < 12) : (encE x).length ≤ 10 := by
  unfold encE textL
  have a := numI_small (n := ((bl x.name).length : Nat)) (by omega) (by rw [bl_len]; omega)
  have b := numI_small h0 (show x.node < 128 by omega)
  have c := bl_len x.name
  simp only [List.length_append]
  omega
theorem encEs_ten : ∀ {l : List Ent}, (∀ x ∈ l, x.name.size ≤ 8 ∧ 0 ≤ x.node ∧ x.node < 12) → (encEs l).length ≤ 10 * l.length
  | [], _ => by simp [encEs]
  | x :: l, h => by
    have h1 := encEs_ten (l := l) fun y hy => h y (by simp [hy])
    have hx := h x (by simp)
    have h2 := encE_ten hx.1 hx.2.1 hx.2.2
    have e : encEs (x :: l) = encE x ++ encEs l := by simp [encEs]
    rw [e, List.length_append, List.length_cons]; omega
theorem encN_short {n : Nod} (h : mayN n = true) : (encN n).length ≤ 102 := by
  have h1 := mayN_seqs h
  have h2 := mayL_len (mayN_ents h)
  have h3 := encEs_ten (l := n.ents) fun x hx => by
    have := mayL_node (mayN_ents h) hx
    have := mayB_size this.2.2
    omega
  have h4 := numsL_six n.seqs
  by_cases k1 : n.kind = 1
  · rw [encN_1 k1]
    have a : (numI 1).length = 1 := rfl
    have b := numI_six n.links
    have c := numI_six n.size
    simp only [List.length_append]; omega
  · by_cases k2 : n.kind = 2
    · rw [encN_2 k2]
      have a : (numI 2).length = 1 := rfl
      have b := numI_small (n := ((n.ents.length : Nat) : Int)) (by omega) (by omega)
      simp only [List.length_append]; omega
    · rw [encN_0 k1 k2]
      have := numI_six n.kind
      omega
theorem encT_short : ∀ {t : Tre}, (∀ n ∈ t, mayN n = true) → (encT t).length ≤ 102 * t.length
  | [], _ => by simp [encT]
  | n :: t, h => by
    have h1 := encT_short (t := t) fun y hy => h y (by simp [hy])
    have h2 := encN_short (h n (by simp))
    have e : encT (n :: t) = encN n ++ encT t := by simp [encT]
    rw [e, List.length_append, List.length_cons]; omega
theorem laidEnd {V V0 : View} {x : Sl} {l : List UInt8} {r : Nat} {C : Sl → View → Prop} (hb : Buf V x 5 1 (u8s l)) (hle : V0.Le (V.minus x)) (hr : rowAt V (some ⟨r, 0, none⟩) (1 * 1) (u8s [90])) (hl : l.length ≤ 4000)
    (hC : ∀ s V', s.n = l.length + 1 → V0.Le V' → C s V') : apV V 5 1 1 [.int .u8 0] x (.slice (some ⟨r, 0, none⟩) 1 1) C := by
  have hxn : x.n = l.length := by have := hb.len; rw [u8s_len, Nat.mul_one] at this; exact this.symm
  refine apV_buf rfl hb (src := u8s [90]) (m := 1) ⟨rfl, hr⟩ rfl (u8s_one _) (by show (x.n + 1) * 1 ≤ _; omega) (by show x.n + 1 ≤ _; omega) fun s V' _ hn hle' => ?_
  exact hC s V' (by rw [hn, hxn]) ((hle.trans hle').trans (View.minus_le _ _))
theorem row90 {V : View} {r : Nat} (h : V.see r = some (.cells ⟨putL [.int .u8 0] 0 [.int .u8 90]⟩ 5 (0, 0))) : rowAt V (some ⟨r, 0, none⟩) (1 * 1) (u8s [90]) := rowAt_new h rfl
theorem laid_ok {x : Sl} {l : List UInt8} {p q : Int} {V : View} (h : SlR V x l) (hl : l.length ≤ 2000) : CallV Try.prog 47 ⟨[.agg ⟨[.int .i64 p, .int .i64 q, .slice x.a x.n x.c]⟩]⟩ V fun r V' => ∃ y : Sl, r = .slice y.a y.n y.c ∧ y.n = ([] ++ numI p ++ numI q ++ textL l).length + 1 ∧ V.Le V' := by
  have a1 := numI_len p
  have a2 := numI_len q
  have a3 := numI_len (l.length : Nat)
  have a4 : (textL l).length ≤ 2007 := by unfold textL; rw [List.length_append]; omega
  have hlen : ([] ++ numI p ++ numI q ++ textL l).length ≤ 4000 := by simp only [List.length_append, List.length_nil]; omega
  have hl1 : (([] : List UInt8) ++ numI p).length ≤ 100 := by simp only [List.length_append, List.length_nil]; omega
  have hl2 : (([] : List UInt8) ++ numI p ++ numI q).length ≤ 100 := by simp only [List.length_append, List.length_nil]; omega
  refine f47_x ?_
  unfold f47_n
  refine fun _ => joinP_cut (fun s V' => s.1.n = ([] ++ numI p ++ numI q ++ textL l).length + 1 ∧ V.Le V') ⟨trivial, V, View.Le.refl _, ?_, ?_⟩ ?_
  · refine (number8_ok (SlR.nil (α := UInt8) V none 0) (by decide)).mono ?_
    rintro r V1 ⟨y1, rfl, h1⟩
    refine ⟨y1, rfl, h1.vle, ?_, ?_⟩
    · refine (number8_ok h1.slR (by omega)).mono ?_
      rintro r V2 ⟨y2, rfl, h2⟩
      refine ⟨y2, rfl, h1.vle.trans h2.vle, ?_, ?_⟩
      · refine (text8_ok h2.slR (h.mono (h1.vle.trans h2.vle)) (by omega)).mono ?_
        rintro r V3 ⟨y3, rfl, h3⟩
        refine ⟨y3, rfl, (h1.vle.trans h2.vle).trans h3.vle, fun r4 hr4 => ?_⟩
        have hf4 := View.see_none_of_ge hr4
        refine ⟨((h1.vle.trans h2.vle).trans h3.vle).trans (View.put_le hf4), laidEnd (V0 := V) (h3.buf.put hf4) (((h1.vle.trans h2.vle).trans h3.le).trans (put_minus_le hf4)) (row90 (View.see_put_same _ _ _)) hlen fun s V' hs hV => ⟨hs, hV⟩⟩
      · intro r4 hr4
        have hf4 := View.see_none_of_ge hr4
        have hp4 := View.put_le (o := .cells ⟨putL [.int .u8 0] 0 [.int .u8 90]⟩ 5 (0, 0)) hf4
        have hle4 := (h1.vle.trans h2.vle).trans hp4
        refine ⟨hle4, (text8_ok (h2.slR.mono hp4) (h.mono hle4) (by omega)).mono ?_⟩
        rintro r V3 ⟨y3, rfl, h3⟩
        exact ⟨y3, rfl, hle4.trans h3.vle, laidEnd (V0 := V) h3.buf (hle4.trans h3.le) (row90 (h3.vle.see _ _ (View.see_put_same _ _ _))) hlen fun s V' hs hV => ⟨hs, hV⟩⟩
    · intro r4 hr4
      have hf4 := View.see_none_of_ge hr4
      have hp4 := View.put_le (o := .cells ⟨putL [.int .u8 0] 0 [.int .u8 90]⟩ 5 (0, 0)) hf4
      have hle4 := h1.vle.trans hp4
      refine ⟨hle4, (number8_ok (h1.slR.mono hp4) (by omega)).mono ?_⟩
      rintro r V2 ⟨y2, rfl, h2⟩
      refine ⟨y2, rfl, hle4.trans h2.vle, (text8_ok h2.slR (h.mono (hle4.trans h2.vle)) (by omega)).mono ?_⟩
      rintro r V3 ⟨y3, rfl, h3⟩
      exact ⟨y3, rfl, (hle4.trans h2.vle).trans h3.vle, laidEnd (V0 := V) h3.buf ((hle4.trans h2.vle).trans h3.le) (row90 ((h2.vle.trans h3.vle).see _ _ (View.see_put_same _ _ _))) hlen fun s V' hs hV => ⟨hs, hV⟩⟩
  · intro r4 hr4
    have hf4 := View.see_none_of_ge hr4
    have hp4 := View.put_le (o := .cells ⟨putL [.int .u8 0] 0 [.int .u8 90]⟩ 5 (0, 0)) hf4
    refine ⟨hp4, (number8_ok (SlR.nil (α := UInt8) _ none 0) (by decide)).mono ?_⟩
    rintro r V1 ⟨y1, rfl, h1⟩
    refine ⟨y1, rfl, hp4.trans h1.vle, (number8_ok h1.slR (by omega)).mono ?_⟩
    rintro r V2 ⟨y2, rfl, h2⟩
    refine ⟨y2, rfl, (hp4.trans h1.vle).trans h2.vle, (text8_ok h2.slR (h.mono ((hp4.trans h1.vle).trans h2.vle)) (by omega)).mono ?_⟩
    rintro r V3 ⟨y3, rfl, h3⟩
    exact ⟨y3, rfl, ((hp4.trans h1.vle).trans h2.vle).trans h3.vle, laidEnd (V0 := V) h3.buf (((hp4.trans h1.vle).trans h2.vle).trans h3.le) (row90 (((h1.vle.trans h2.vle).trans h3.vle).see _ _ (View.see_put_same _ _ _))) hlen fun s V' hs hV => ⟨hs, hV⟩⟩
  · rintro ⟨y, ⟨⟩⟩ V1 ⟨h1, h2⟩
    exact ⟨y, rfl, h1, h2⟩
theorem sheetMay_ok {x : Sl} {l : List UInt8} {q : Int} {V : View} (h : SlR V x l) (hl : l.length ≤ 1300) (h1 : 1 ≤ q) (h2 : q ≤ 1099511627776) : CallV Try.prog 17 ⟨[.agg ⟨[.int .i64 0, .int .i64 q, .slice x.a x.n x.c]⟩]⟩ V fun r V' => r = .bool true ∧ V.Le V' := by
  refine f17_x ?_
  unfold f17_n
  have hn := h.n
  refine fun _ => joinP_cut (fun g V' => g.1 = true ∧ V.Le V') (br_intro (fun _ => (laid_ok h (by omega)).mono ?_) (fun hb => ?_)) ?_
  · rintro r V1 ⟨y, rfl, hy, hV1⟩
    refine ⟨y, rfl, decide_eq_true ?_, hV1⟩
    have a1 := numI_len 0
    have a2 := numI_len q
    have a3 := numI_len (l.length : Nat)
    have a4 : (textL l).length ≤ 1307 := by unfold textL; rw [List.length_append]; omega
    simp only [List.length_append, List.length_nil] at hy
    omega
  · exfalso
    rw [decide_eq_true (show (0 : Int) ≤ 0 by decide), decide_eq_true (show (0 : Int) ≤ 60 by decide), decide_eq_true h1, decide_eq_true h2, decide_eq_true (show ((x.n : Nat) : Int) ≤ 2000 by omega)] at hb
    cases hb
  · rintro ⟨g, ⟨⟩⟩ V1 ⟨h1, hV⟩
    simp only at h1 hV
    subst h1
    exact ⟨rfl, hV⟩
theorem rootBack_ok {s s' : Sl} {t u : Tre} {q : Int} {V : View} (h : SlR V s t) (k : SlR V s' u) : CallV Try.prog 6 ⟨[treV s, treV s', .int .i64 q]⟩ V fun r V' => r = .bool true ∧ V.Le V' := by
  refine f6_x ?_
  unfold f6_n
  refine fun _ _ => joinP_cut (fun q V' => (q.1 = false → mayT t = true ∧ mayT u = true) ∧ V.Le V') ⟨trivial, V, View.Le.refl _, (light15_ok h).mono ?_⟩ ?_
  · rintro r V1 ⟨x, rfl, x0, x1, _, rfl⟩
    refine ⟨x, rfl, View.Le.refl _, V1, View.Le.refl _, View.Le.refl _, (light15_ok k).mono ?_⟩
    rintro r V2 ⟨y, rfl, y0, y1, _, rfl⟩
    refine ⟨y, rfl, View.Le.refl _, V2, View.Le.refl _, View.Le.refl _, inI64 (by omega) (by omega), br_intro (fun _ => ⟨V2, View.Le.refl _, View.Le.refl _, fun h => (by cases h), View.Le.refl _⟩) (fun _ => (mayTree_ok h).mono ?_)⟩
    rintro r V3 ⟨rfl, hV3⟩
    refine ⟨_, rfl, hV3, V3, hV3, View.Le.refl _, br_intro (fun _ => ⟨fun h => (by cases h), hV3⟩) (fun hb => (mayTree_ok (k.mono hV3)).mono ?_)⟩
    rintro r V4 ⟨rfl, hV4⟩
    exact ⟨_, rfl, fun h => ⟨not_f hb, not_f h⟩, hV3.trans hV4⟩
  rintro ⟨g, ⟨⟩⟩ V1 ⟨hg, hV1⟩
  simp only at hg
  dsimp only [unc]
  refine br_intro (fun _ => awakeJ hV1 fun V' hV => ⟨rfl, hV⟩) (fun hb => ?_)
  obtain ⟨hM, hM'⟩ := hg hb
  refine (bytes_ok (h.mono hV1)).mono ?_
  rintro r V2 ⟨x, e, rfl, hx, hV2⟩
  rw [hM] at hx
  obtain ⟨hx, rfl⟩ := hx
  refine ⟨x, _, rfl, (bytes_ok (k.mono (hV1.trans hV2))).mono ?_⟩
  rintro r V3 ⟨y, e, rfl, hy, hV3⟩
  rw [hM'] at hy
  obtain ⟨hy, rfl⟩ := hy
  obtain ⟨h12, hall, _⟩ := mayT_facts hM
  have hlen := encT_short hall
  refine ⟨y, _, rfl, (parse_ok (hx.mono hV3) (by omega)).mono ?_⟩
  rintro r V4 ⟨z, e, rfl, hz, hV4⟩
  rw [parseT_back hM] at hz
  obtain ⟨hz, rfl⟩ := hz
  have hV04 := ((hV1.trans hV2).trans hV3).trans hV4
  refine ⟨z, _, rfl, fun _ => joinP_cut (fun g V' => g.1 = true ∧ V.Le V') ⟨drOk_fast (by kernel_rfl), V4, View.Le.refl _, br_intro (fun _ => (refSameT_ok (h.mono hV04) hz).mono ?_) (fun h => absurd h (by decide))⟩ ?_⟩
  · rintro r V5 ⟨rfl, rfl⟩
    refine ⟨_, rfl, View.Le.refl _, V5, View.Le.refl _, View.Le.refl _, br_intro (fun _ => ⟨ba (encT t), u8_row (hx.mono (hV3.trans hV4)), ba (encT u), u8_row (hy.mono hV4), (refSameT_ok (h.mono hV04) (k.mono hV04)).mono ?_⟩) (fun h => absurd h (by simp))⟩
    rintro r V6 ⟨rfl, rfl⟩
    have hiff : decide (ba (encT t) = ba (encT u)) = decide (t = u) := decide_eq_decide.2 ⟨fun e => encT_inj hM hM' (by have := congrArg bl e; simpa using this), fun e => by rw [e]⟩
    have hw := wrap_u64_nn q
    have m0 := Int.tmod_nonneg (1099511627776 : Int) hw
    have m1 := Int.tmod_lt_of_pos (IntKind.u64.wrap q) (show (0 : Int) < 1099511627776 by decide)
    refine ⟨_, rfl, View.Le.refl _, br_intro (fun _ => ⟨by decide, inI64 (by omega) (by omega), inI64 (by omega) (by omega), (sheetMay_ok (hx.mono (hV3.trans hV4)) (by omega) (by omega) (by omega)).mono ?_⟩) (fun h => ?_)⟩
    · rintro r V7 ⟨rfl, hV7⟩
      exact ⟨_, rfl, br_intro (fun _ => awakeJ (hV04.trans hV7) fun V' hV => ⟨rfl, hV⟩) (fun h => absurd h (by decide))⟩
    · rw [hiff] at h
      simp at h
  · rintro ⟨g, ⟨⟩⟩ V5 ⟨h1, hV⟩
    simp only at h1 hV
    subst h1
    exact ⟨rfl, hV⟩
end Go.Proofs.Ytpalkdmngckcoaa
