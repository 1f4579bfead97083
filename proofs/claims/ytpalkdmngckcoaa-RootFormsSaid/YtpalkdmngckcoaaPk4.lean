/- Texts joined: EqOk, AwakeOk, Parse4Ok, Set, CopyOk, BackLaw, RootCutOk, DrFast, RootBackOk, RootNamesOk, RootFormsOk, In. -/
import Derived.Test.YtpalkdmngckcoaaPk3
import Derived.Test.YtpalkdmngckcoaaSoundC
import Derived.Test.YtpalkdmngckcoaaPk1
/- Contracts: equal rows, equal trees. -/
namespace Go.Proofs.Ytpalkdmngckcoaa
open Go
theorem equalI_ok {s t : Sl} {l m : List Int} {V : View} (h : SlR V s l) (k : SlR V t m) : CallV Try.prog 74 ⟨[.slice s.a s.n s.c, .slice t.a t.n t.c]⟩ V fun r V' => r = .bool (decide (l = m)) ∧ V' = V := by
  refine f74_x ?_
  unfold f74_n
  have hn := h.n; have hlim := h.lim; have kn := k.n
  refine br_intro (fun hne => ⟨?_, rfl⟩) (fun heq => ?_)
  · have hne : ¬ (s.n : Int) = t.n := by simpa using hne
    rw [decide_eq_false]
    intro e; subst e; omega
  have heq : (s.n : Int) = t.n := by simpa using heq
  refine loop1 (k := .int .i64) (fun (x : Int) V' => V' = V ∧ 0 ≤ x ∧ x ≤ s.n ∧ l.take x.toNat = m.take x.toNat) (fun (x : Int) _ => s.n - x.toNat) ⟨rfl, by omega, by omega, rfl⟩ ?_
  rintro (x : Int) V' ⟨rfl, h0, h1, h2⟩
  refine br_intro (fun hlt => ?_) (fun hge => ?_)
  · have hlt : x < s.n := by simpa using hlt
    obtain ⟨ad, hx, ha, hc, _⟩ := h.int h0 hlt
    obtain ⟨ad', hx', ha', hc', _⟩ := k.int h0 (by omega)
    refine ⟨trivial, V', View.Le.refl _, h0, hlt, ad, ha, _, hc, h0, by omega, ad', ha', _, hc', br_intro (fun hb => ⟨?_, rfl⟩) (fun hb => ⟨inI64 (by omega) (by omega), ⟨rfl, by omega, by omega, ?_⟩, by omega⟩)⟩
    · have hb : ¬ l[x.toNat] = m[x.toNat] := by simpa using hb
      rw [decide_eq_false]
      intro e; subst e; exact hb rfl
    · have hb : l[x.toNat] = m[x.toNat] := by simpa using hb
      rw [show (x + 1).toNat = x.toNat + 1 by omega, List.take_add_one, List.take_add_one, h2, List.getElem?_eq_getElem hx, List.getElem?_eq_getElem hx', hb]
  · have hge : ¬ x < s.n := by simpa using hge
    rw [List.take_of_length_le (by omega), List.take_of_length_le (by omega)] at h2
    exact ⟨by rw [h2]; simp, rfl⟩
theorem ent_eq {x y : Ent} : (decide (x.name = y.name) && (decide (x.node = y.node) && true)) = decide (x = y) := by
  cases x; cases y
  rw [Bool.eq_iff_iff]; simp
theorem equalE_ok {s t : Sl} {l m : List Ent} {V : View} (h : SlR V s l) (k : SlR V t m) : CallV Try.prog 75 ⟨[.slice s.a s.n s.c, .slice t.a t.n t.c]⟩ V fun r V' => r = .bool (decide (l = m)) ∧ V' = V := by
  refine f75_x ?_
  unfold f75_n
  have hn := h.n; have hlim := h.lim; have kn := k.n
  refine br_intro (fun hne => ⟨?_, rfl⟩) (fun heq => ?_)
  · have hne : ¬ (s.n : Int) = t.n := by simpa using hne
    rw [decide_eq_false]
    intro e; subst e; omega
  have heq : (s.n : Int) = t.n := by simpa using heq
  refine loop1 (k := .int .i64) (fun (x : Int) V' => V' = V ∧ 0 ≤ x ∧ x ≤ s.n ∧ l.take x.toNat = m.take x.toNat) (fun (x : Int) _ => s.n - x.toNat) ⟨rfl, by omega, by omega, rfl⟩ ?_
  rintro (x : Int) V' ⟨rfl, h0, h1, h2⟩
  refine br_intro (fun hlt => ?_) (fun hge => ?_)
  · have hlt : x < s.n := by simpa using hlt
    obtain ⟨ad, hx, ha, hc, _⟩ := h.ent h0 hlt
    obtain ⟨ad', hx', ha', hc', _⟩ := k.ent h0 (by omega)
    refine ⟨trivial, V', View.Le.refl _, h0, hlt, ad, ha, _, _, hc, h0, by omega, ad', ha', _, _, hc', trivial, ?_⟩
    rw [ent_eq]
    refine br_intro (fun hb => ⟨?_, rfl⟩) (fun hb => ⟨inI64 (by omega) (by omega), ⟨rfl, by omega, by omega, ?_⟩, by omega⟩)
    · have hb : ¬ l[x.toNat] = m[x.toNat] := by simpa using hb
      rw [decide_eq_false]
      intro e; subst e; exact hb rfl
    · have hb : l[x.toNat] = m[x.toNat] := by simpa using hb
      rw [show (x + 1).toNat = x.toNat + 1 by omega, List.take_add_one, List.take_add_one, h2, List.getElem?_eq_getElem hx, List.getElem?_eq_getElem hx', hb]
  · have hge : ¬ x < s.n := by simpa using hge
    rw [List.take_of_length_le (by omega), List.take_of_length_le (by omega)] at h2
    exact ⟨by rw [h2]; simp, rfl⟩
theorem nod_eq (a b : Nod) : decide (a = b) = (decide (a.kind = b.kind) && decide (a.links = b.links) && decide (a.size = b.size) && (decide (a.seqs = b.seqs) && decide (a.ents = b.ents))) := by
  cases a; cases b
  rw [Bool.eq_iff_iff]; simp [and_assoc]
theorem sameN_ok {a b : Nod} {s e s' e' : Sl} {V : View} (h : NodR V s e a) (k : NodR V s' e' b) : CallV Try.prog 57 ⟨[nodV a s e, nodV b s' e']⟩ V fun r V' => r = .bool (decide (a = b)) ∧ V' = V := by
  refine f57_x ?_
  unfold f57_n
  rw [nod_eq]
  refine fun _ _ => joinP_cut (fun q V' => q.1 = (decide (a.kind = b.kind) && decide (a.links = b.links) && decide (a.size = b.size) && (decide (a.seqs = b.seqs) && decide (a.ents = b.ents))) ∧ V' = V) (br_intro (fun hb => (equalI_ok h.seqs k.seqs).mono ?_) (fun hb => ⟨?_, rfl⟩)) ?_
  · have hb : (decide (a.kind = b.kind) && decide (a.links = b.links) && decide (a.size = b.size)) = true := by
      cases h1 : decide (a.kind = b.kind) <;> cases h2 : decide (a.links = b.links) <;> cases h3 : decide (a.size = b.size) <;> simp_all
    rw [hb]
    rintro r V1 ⟨rfl, rfl⟩
    refine ⟨_, rfl, br_intro (fun h1 => (equalE_ok h.ents k.ents).mono ?_) (fun h1 => ⟨by rw [h1]; rfl, rfl⟩)⟩
    rintro r V2 ⟨rfl, rfl⟩
    exact ⟨_, rfl, by rw [h1]; rfl, rfl⟩
  · have hb : (decide (a.kind = b.kind) && decide (a.links = b.links) && decide (a.size = b.size)) = false := by
      cases h1 : decide (a.kind = b.kind) <;> cases h2 : decide (a.links = b.links) <;> cases h3 : decide (a.size = b.size) <;> simp_all
    rw [hb]; rfl
  · rintro ⟨q, ⟨⟩⟩ V1 ⟨h1, hV⟩
    simp only at h1 hV
    subst h1 hV
    exact ⟨rfl, rfl⟩
theorem equalFuncN_ok {s t : Sl} {l m : List Nod} {V : View} {g : FuncId} {xs ys : List Value} (h : SlR V s l) (k : SlR V t m)
    (hp : ∀ a b s e s' e', NodR V s e a → NodR V s' e' b → CallV Try.prog g ⟨xs ++ [nodV a s e, nodV b s' e'] ++ ys⟩ V fun r V' => r = .bool (decide (a = b)) ∧ V' = V) :
    CallV Try.prog 56 ⟨[.slice s.a s.n s.c, .slice t.a t.n t.c, .func (.func g) ⟨xs⟩ ⟨ys⟩]⟩ V fun r V' => r = .bool (decide (l = m)) ∧ V' = V := by
  refine f56_x ?_
  unfold f56_n
  have hn := h.n; have hlim := h.lim; have kn := k.n
  refine br_intro (fun hne => ⟨?_, rfl⟩) (fun heq => ?_)
  · have hne : ¬ (s.n : Int) = t.n := by simpa using hne
    rw [decide_eq_false]
    intro e; subst e; omega
  have heq : (s.n : Int) = t.n := by simpa using heq
  refine loop1 (k := .int .i64) (fun (x : Int) V' => V' = V ∧ 0 ≤ x ∧ x ≤ s.n ∧ l.take x.toNat = m.take x.toNat) (fun (x : Int) _ => s.n - x.toNat) ⟨rfl, by omega, by omega, rfl⟩ ?_
  rintro (x : Int) V' ⟨rfl, h0, h1, h2⟩
  refine br_intro (fun hlt => ?_) (fun hge => ?_)
  · have hlt : x < s.n := by simpa using hlt
    obtain ⟨ad, sq, en, hx, ha, hc, hN⟩ := h.nod h0 hlt
    obtain ⟨ad', sq', en', hx', ha', hc', hN'⟩ := k.nod h0 (by omega)
    refine ⟨h0, hlt, ad, ha, _, _, _, sq, en, hc, fun _ => ⟨h0, by omega, ad', ha', _, _, _, sq', en', hc', fun _ => (hp _ _ _ _ _ _ hN hN').mono ?_⟩⟩
    rintro r V1 ⟨rfl, rfl⟩
    refine ⟨_, rfl, br_intro (fun hb => ⟨?_, rfl⟩) (fun hb => ⟨inI64 (by omega) (by omega), ⟨rfl, by omega, by omega, ?_⟩, by omega⟩)⟩
    · have hb : ¬ l[x.toNat] = m[x.toNat] := of_decide_eq_false (not_t hb)
      rw [decide_eq_false]
      intro e; subst e; exact hb rfl
    · have hb : l[x.toNat] = m[x.toNat] := of_decide_eq_true (not_f hb)
      rw [show (x + 1).toNat = x.toNat + 1 by omega, List.take_add_one, List.take_add_one, h2, List.getElem?_eq_getElem hx, List.getElem?_eq_getElem hx', hb]
  · have hge : ¬ x < s.n := by simpa using hge
    rw [List.take_of_length_le (by omega), List.take_of_length_le (by omega)] at h2
    exact ⟨by rw [h2]; simp, rfl⟩
theorem sameT_ok {s t : Sl} {l m : Tre} {V : View} (h : SlR V s l) (k : SlR V t m) : CallV Try.prog 25 ⟨[treV s, treV t]⟩ V fun r V' => r = .bool (decide (l = m)) ∧ V' = V := by
  refine f25_x ?_
  unfold f25_n
  refine fun _ _ => (equalFuncN_ok (xs := []) (ys := []) h k fun a b s e s' e' hN hN' => ?_).mono ?_
  · exact sameN_ok hN hN'
  · rintro r V' ⟨rfl, rfl⟩
    exact ⟨_, rfl, rfl, rfl⟩
end Go.Proofs.Ytpalkdmngckcoaa

/- Contracts: the first tree; the law that every program must know. -/
namespace Go.Proofs.Ytpalkdmngckcoaa
open Go
def dirN : Nod := ⟨2, 1, 0, [], []⟩
def firstT : Tre := dirN :: List.replicate 11 Nod.zero
def firstB : List UInt8 := [2, 0, 0, 0, 0, 0, 0, 0, 0, 0, 0, 0, 0]
theorem hang_first : ∀ i, i < 12 → ∀ met : Bool, (i = 0 → met = true) → hangB (firstT.getD i default) (i : Nat) ((cnt 12 (allE firstT)).getD i 0) met = true := by decide
theorem mayT_first : mayT firstT = true := by
  unfold mayT
  have h1 : (decide (firstT.length = 12) && firstT.all mayN && decide ((firstT.getD 0 default).kind = 2)) = true := by decide
  have h2 : apartL (allS firstT) = true := by decide
  rw [h1, h2, Bool.true_and, Bool.and_true, List.all_eq_true]
  intro i hi
  exact hang_first i (List.mem_range.1 hi) _ fun h => by subst h; exact metB_iff.2 .refl
theorem encT_first : encT firstT = firstB := by decide
theorem rd_first : rdTre 12 (some firstB) = (firstT, some []) := by decide
theorem parseT_first : parseT firstB = some firstT := by
  unfold parseT; rw [rd_first, if_pos ⟨rfl, mayT_first⟩]
theorem refsT_first : refsT firstT = [] := by
  unfold refsT; rw [if_pos mayT_first]; decide
theorem empty2_ok {V : View} : CallV Try.prog 55 ⟨[.int .i64 2]⟩ V fun r V' => r = nodV dirN ⟨none, 0, 0⟩ ⟨none, 0, 0⟩ ∧ V' = V := by
  refine f55_x ?_
  unfold f55_n
  exact fun _ => br_intro (fun h => absurd h (by decide)) (fun _ => br_intro (fun _ => ⟨rfl, rfl⟩) (fun h => absurd h (by decide)))
def nodCs (n : Nod) : List Value := [.int .i64 n.kind, .int .i64 n.links, .int .i64 n.size, .slice none 0 0, .slice none 0 0]
theorem rep_bare {W : View} {n : Nod} (h1 : inI .i64 n.kind) (h2 : inI .i64 n.links) (h3 : inI .i64 n.size) (h4 : n.seqs = []) (h5 : n.ents = []) : Rep.rep W (nodCs n) n :=
  ⟨⟨none, 0, 0⟩, ⟨none, 0, 0⟩, rfl, h1, h2, h3, by rw [h4]; exact SlR.nil _ _ _, by rw [h5]; exact SlR.nil _ _ _⟩
theorem rep_zeros {W : View} : ∀ k, repL W (List.replicate k (nodCs Nod.zero)).flatten (List.replicate k Nod.zero)
  | 0 => rfl
  | k + 1 => ⟨nodCs Nod.zero, (List.replicate k (nodCs Nod.zero)).flatten, by rw [List.replicate_succ, List.flatten_cons], rep_bare zero64 zero64 zero64 rfl rfl, rep_zeros k⟩
theorem first_ok {V : View} : CallV Try.prog 24 ⟨[]⟩ V fun r V' => ∃ x : Sl, r = treV x ∧ SlR V' x firstT ∧ V.Le V' := by
  refine f24_x (_u := ()) ?_
  unfold f24_n
  refine fun _ => ⟨by decide, by decide, by decide, by decide, fun r hr => ?_⟩
  have hfr := View.see_none_of_ge hr
  have hp := View.put_le (o := .cells ⟨(List.replicate 12 (nodCs Nod.zero)).flatten⟩ 55 (0, 0)) hfr
  refine fun _ => ⟨trivial, V, hp, empty2_ok.mono ?_⟩
  rintro r1 V1 ⟨rfl, rfl⟩
  refine ⟨_, _, _, ⟨none, 0, 0⟩, ⟨none, 0, 0⟩, rfl, hp, by decide, by decide, _, rfl, ?_, ⟨some ⟨r, 0, none⟩, 12, 12⟩, rfl, ?_, ?_⟩
  · exact canSet_of (View.see_put_same _ _ _) (by decide)
  · have e : (⟨r, 0, none⟩ : Addr).add 0 = ⟨r, 0, none⟩ := rfl
    rw [e, sets_see (View.see_put_same _ _ _)]
    have := slR_block (α := Nod) (l := firstT) (W := (V.put r (.cells ⟨(List.replicate 12 (nodCs Nod.zero)).flatten⟩ 55 (0, 0))).put r (.cells ⟨nodCs dirN ++ (List.replicate 11 (nodCs Nod.zero)).flatten⟩ 55 (0, 0))) (View.see_put_same _ _ _) ⟨nodCs dirN, _, rfl, rep_bare two64 one64 zero64 rfl rfl, rep_zeros 11⟩ (View.Le.refl _) (by decide)
    exact this
  · have e : (⟨r, 0, none⟩ : Addr).add 0 = ⟨r, 0, none⟩ := rfl
    rw [e, sets_see (View.see_put_same _ _ _)]
    exact (put_le_hide hfr (View.Le.refl _)).trans (hide_le_put r _)
theorem u8_row {V : View} {x : Sl} {l : List UInt8} (h : SlR V x l) : rowAt V x.a x.n (bytesV (ba l)) := by
  have := h.row8
  rw [Nat.mul_one] at this
  exact this
theorem awake_ok {V : View} : CallV Try.prog 8 ⟨[]⟩ V fun r V' => r = .bool true ∧ V.Le V' := by
  refine f8_x (_u := ()) ?_
  unfold f8_n
  refine first_ok.mono ?_
  rintro r V1 ⟨x, rfl, hx, hV1⟩
  refine ⟨x, rfl, (bytes_ok hx).mono ?_⟩
  rintro r V2 ⟨y, e, rfl, hy, hV2⟩
  rw [mayT_first] at hy
  obtain ⟨hy, rfl⟩ := hy
  rw [encT_first] at hy
  refine ⟨y, _, rfl, (parse_ok hy (by decide)).mono ?_⟩
  rintro r V3 ⟨z, e, rfl, hz, hV3⟩
  rw [parseT_first] at hz
  obtain ⟨hz, rfl⟩ := hz
  have hV13 := (hV1.trans hV2).trans hV3
  refine ⟨z, _, rfl, fun _ => joinP_cut (fun q V' => q.1 = true ∧ V.Le V') ⟨trivial, V3, View.Le.refl _, br_intro (fun _ => ⟨ba firstB, u8_row (hy.mono hV3), br_intro (fun _ => first_ok.mono ?_) (fun h => absurd h (by decide))⟩) (fun h => absurd h (by decide))⟩ ?_⟩
  · rintro r V4 ⟨w, rfl, hw, hV4⟩
    refine ⟨w, rfl, hV4, V3, View.Le.refl _, hV4, (sameT_ok (hz.mono hV4) hw).mono ?_⟩
    rintro r V5 ⟨rfl, rfl⟩
    refine ⟨_, rfl, hV4, V3, View.Le.refl _, hV4, br_intro (fun _ => (refsT_ok (hz.mono hV4)).mono ?_) (fun h => absurd h (by simp))⟩
    rintro r V6 ⟨u, rfl, hu, hV6⟩
    rw [refsT_first] at hu
    refine ⟨u, rfl, ?_, (hV13.trans hV4).trans hV6⟩
    rw [hu.n]; rfl
  · rintro ⟨q, ⟨⟩⟩ V4 ⟨h1, hV⟩
    simp only at h1 hV
    subst h1
    exact ⟨rfl, hV⟩
theorem awakeJ {V V0 : View} (hle : V0.Le V) {Q : Bool → View → Prop} (hQ : ∀ V', V0.Le V' → Q true V') : CallV Try.prog 8 ⟨[]⟩ V fun r V' => ∃ x : Bool, r = .bool x ∧ Q x V' :=
  awake_ok.mono fun _ V' h => ⟨true, h.1, hQ V' (hle.trans h.2)⟩
theorem rootRaw_ok {s : Sl} {l : List UInt8} {V : View} (h : SlR V s l) : CallV Try.prog 3 ⟨[.slice s.a s.n s.c]⟩ V fun r V' => r = .bool true ∧ V.Le V' := by
  refine f3_x ?_
  unfold f3_n
  have hn := h.n
  refine br_intro (fun _ => awakeJ (View.Le.refl _) fun V' hV => ⟨rfl, hV⟩) (fun hb => ?_)
  have hb : l.length ≤ 3000 := by have := of_decide_eq_false hb; omega
  refine (parse_ok h (by omega)).mono ?_
  rintro r V1 ⟨x, e, rfl, hx, hV1⟩
  refine ⟨x, e, rfl, fun _ => ?_⟩
  cases hp : parseT l with
  | none =>
    rw [hp] at hx
    obtain ⟨rfl, rfl⟩ := hx
    refine br_intro (fun _ => joinP_cut (fun q V' => q.1 = true ∧ V.Le V') (br_intro (fun _ => awakeJ hV1 fun V' hV => ⟨rfl, hV⟩) (fun h => absurd h (by decide))) ?_) (fun h => absurd h (by decide))
    rintro ⟨q, ⟨⟩⟩ V4 ⟨h1, hV⟩
    simp only at h1 hV
    subst h1
    exact ⟨rfl, hV⟩
  | some t =>
    rw [hp] at hx
    obtain ⟨hx, rfl⟩ := hx
    obtain ⟨hM, hE⟩ := parseT_enc hp
    refine br_intro (fun h => absurd h (by decide)) (fun _ => (bytes_ok hx).mono ?_)
    rintro r V2 ⟨y, e, rfl, hy, hV2⟩
    rw [hM] at hy
    obtain ⟨hy, rfl⟩ := hy
    rw [hE] at hy
    refine ⟨y, _, rfl, joinP_cut (fun q V' => q.1 = true ∧ V.Le V') ((mayT_ok (hx.mono hV2)).mono ?_) ?_⟩
    · rintro r V3 ⟨rfl, hV3⟩
      rw [hM]
      refine ⟨_, rfl, br_intro (fun _ => ⟨ba l, u8_row (hy.mono hV3), ba l, u8_row (h.mono ((hV1.trans hV2).trans hV3)), br_intro (fun _ => awakeJ ((hV1.trans hV2).trans hV3) fun V' hV => ⟨rfl, hV⟩) (fun h => absurd h (by simp))⟩) (fun h => absurd h (by decide))⟩
    · rintro ⟨q, ⟨⟩⟩ V4 ⟨h1, hV⟩
      simp only at h1 hV
      subst h1
      exact ⟨rfl, hV⟩
end Go.Proofs.Ytpalkdmngckcoaa

/- The contract of the reference's ParseRoot. -/
namespace Go.Proofs.Ytpalkdmngckcoaa
open Go
theorem treT_nod : (5 : Nat) = Rep.sz Nod := rfl
/-- A number in a new block, appended to a row of one's own that stands beside a row and a reader of one's own. -/
theorem app1b {α : Type} [Rep α] {V V0 : View} {p r : Nat} {st : Stt} {x y : Sl} {e e' : TypeId} {bytes sz' : Nat} {zero : List Value} {cs vs ds : List Value} {l : List α} {d : α} {C : Sl → View → Prop} {ob : Obj} {te : TypeId}
    (hz : zero.length = Rep.sz α) (hb : Buf V x e (Rep.sz α) cs) (hy : Buf (V.minus x) y e' sz' ds) (hr : repL V0 cs l) (hd : Rep.rep V0 vs d) (hR : Rd ((V.minus x).minus y) p st) (hle : V0.Le (((V.minus x).minus y).hide p)) (hnew : V.size ≤ r) (hob : ob = .cells ⟨vs⟩ te (0, 0))
    (hm : (x.n + 1) * bytes ≤ 140737488355328) (hm2 : x.n + 1 ≤ 140737488355328)
    (hC : ∀ s V', Buf V' s e (Rep.sz α) (cs ++ vs) → Buf (V'.minus s) y e' sz' ds → repL V0 (cs ++ vs) (l ++ [d]) → Rd ((V'.minus s).minus y) p st → V0.Le (((V'.minus s).minus y).hide p) → C s V') :
    apV (V.put r ob) e (Rep.sz α) bytes zero x (.slice (some ⟨r, 0, none⟩) 1 1) C := by
  subst hob
  have hfr : V.see r = none := View.see_none_of_ge hnew
  have hvl : vs.length = Rep.sz α := Rep.len hd
  refine apV_buf hz (hb.put hfr) (src := vs) (m := 1) ⟨rfl, rowAt_new (View.see_put_same _ _ _) (by rw [Nat.one_mul]; exact hvl)⟩ (by rw [Nat.one_mul]; exact hvl) (Rep.one hd) hm hm2 fun s V' hb' _ hle' => ?_
  have h1 : (V.minus x).Le (V'.minus s) := (put_minus_le hfr).trans hle'
  have h2 := minus_mono h1 y
  exact hC s V' hb' (hy.mono h1) (hr.snoc hd) (hR.mono h2) (hle.trans (hide_mono h2 p))
theorem rfParse_ok {s : Sl} {l : List UInt8} {V : View} (h : SlR V s l) (hl : l.length ≤ 140737488350000) : CallV Try.prog 19 ⟨[.slice s.a s.n s.c]⟩ V fun r V' => ∃ (x : Sl) (e : Int), r = .tuple ⟨[treV x, .int .i64 e]⟩ ∧ ParseR V' (parseT l) x e ∧ V.Le V' := by
  refine f19_x ?_
  unfold f19_n
  intro _ p hp _
  have hR1 : Rd (V.put p (.cells ⟨[.slice s.a s.n s.c, .int .i64 0]⟩ 78 (0, 0))) p (some l) := ⟨s, 0, l, ⟨_, View.see_put_same _ _ _⟩, h.mono (put_le_hide hp (View.Le.refl _)), hl, .inl ⟨rfl, rfl⟩⟩
  refine loop2 (k := .int .i64) (l := .sl) (fun (x : Int) (s : Sl) V' => ∃ (i : Nat) (cs : List Value), x = i ∧ i ≤ 12 ∧ Buf V' s 55 5 cs ∧ repL ((V'.minus s).hide p) cs (rdTre i (some l)).1 ∧ Rd (V'.minus s) p (rdTre i (some l)).2 ∧ V.Le ((V'.minus s).hide p)) (fun (x : Int) _ _ => 12 - x.toNat) ⟨0, [], rfl, by omega, Buf.nil _ _ _, rfl, hR1, put_le_hide hp (View.Le.refl _)⟩ ?_
  rintro (x : Int) (y : Sl) V2 ⟨i, ycs, rfl, hi, hb, hr, hR2, hV2⟩
  have q2 : V.Le V2 := hV2.trans ((View.hide_le _ _).trans (View.minus_le _ _))
  refine br_intro (fun hlt => ?_) (fun hge => ?_)
  · have hlt : i < 12 := by have := of_decide_eq_true hlt; omega
    have hyn := hb.n_eq (α := Nod) hr
    rw [rdTre_len] at hyn
    have hT : rdTre (i + 1) (some l) = ((rdTre i (some l)).1 ++ [(rdNod (rdTre i (some l)).2).1], (rdNod (rdTre i (some l)).2).2) := rfl
    generalize hV0 : (V2.minus y).hide p = V0 at *
    have fin : ∀ {V3 : View} {sq en : Sl}, Buf V3 y 55 5 ycs → NodR ((V3.minus y).hide p) sq en (rdNod (rdTre i (some l)).2).1 → Rd (V3.minus y) p (rdNod (rdTre i (some l)).2).2 → V0.Le ((V3.minus y).hide p) → ∀ {r : Nat}, V3.size ≤ r → ∀ {C : Sl → View → Prop},
        (∀ s V', (∃ (i' : Nat) (cs : List Value), ((i : Int) + 1 : Int) = i' ∧ i' ≤ 12 ∧ Buf V' s 55 5 cs ∧ repL ((V'.minus s).hide p) cs (rdTre i' (some l)).1 ∧ Rd (V'.minus s) p (rdTre i' (some l)).2 ∧ V.Le ((V'.minus s).hide p)) → C s V') →
        apV (V3.put r (.cells ⟨putL [.int .i64 0, .int .i64 0, .int .i64 0, .slice none 0 0, .slice none 0 0] 0 [.int .i64 (rdNod (rdTre i (some l)).2).1.kind, .int .i64 (rdNod (rdTre i (some l)).2).1.links, .int .i64 (rdNod (rdTre i (some l)).2).1.size, .slice sq.a sq.n sq.c, .slice en.a en.n en.c]⟩ 55 (0, 0))) 55 5 72 [.int .i64 0, .int .i64 0, .int .i64 0, .slice none 0 0, .slice none 0 0] y (.slice (some ⟨r, 0, none⟩) 1 1) C := by
      intro V3 sq en hb3 hN3 hR3 hV3 r hr1 C hC
      refine app2 (α := Nod) rfl hb3 (hr.mono hV3) hN3.rep hR3 (hV2.trans hV3) hr1 rfl (by show (y.n + 1) * 72 ≤ _; omega) (by show y.n + 1 ≤ _; omega) ?_
      intro s4 V4 cs4 hb4 hr4 hR4 hV4
      exact hC s4 V4 ⟨i + 1, cs4, by omega, by omega, hb4, by rw [hT]; exact hr4, by rw [hT]; exact hR4, hV4⟩
    clear hT hr
    generalize (rdTre i (some l)).2 = st at *
    refine ((rd3Number_ok (most := 2) hR2 (by decide)).besideB hb).mono ?_
    rintro r V3 ⟨U, ⟨rfl, hR3, hV3⟩, hU, hb3⟩
    have hk := rdN_range st 2
    rw [hV0] at hV3
    have hR3 := hR3.mono hU
    have hV3 := hV3.trans (hide_mono hU p)
    refine ⟨_, rfl, fun _ => ?_⟩
    refine joinP_cut (fun q V' => q.1 = (rdNod st).1.kind ∧ q.2.1 = (rdNod st).1.links ∧ q.2.2.1 = (rdNod st).1.size ∧ Buf V' y 55 5 ycs ∧ NodR ((V'.minus y).hide p) q.2.2.2.1 q.2.2.2.2.1 (rdNod st).1 ∧ Rd (V'.minus y) p (rdNod st).2 ∧ V0.Le ((V'.minus y).hide p)) ?_ ?_
    · refine br_intro (fun h1 => ?_) (fun h1 => ?_)
      · have h1 : (rdN st 2).1 = 1 := of_decide_eq_true h1
        have hD : rdNod st = rdFile (rdN st 2).2 := by unfold rdNod; rw [if_pos h1]
        rw [hD]
        generalize (rdN st 2).2 = st1 at *
        refine ((rd3Number_ok (most := 120) hR3 (by decide)).besideB hb3).mono ?_
        rintro r V4 ⟨U, ⟨rfl, hR4, hV4⟩, hU, hb4⟩
        have hR4 := hR4.mono hU
        have hV4 := hV3.trans (hV4.trans (hide_mono hU p))
        have hl1 := rdN_range st1 120
        refine ⟨_, rfl, ((rd3Number_ok (most := 80) hR4 (by decide)).besideB hb4).mono ?_⟩
        rintro r V5 ⟨U, ⟨rfl, hR5, hV5⟩, hU, hb5⟩
        have hR5 := hR5.mono hU
        have hV5 := hV4.trans (hV5.trans (hide_mono hU p))
        have hz := rdN_range (rdN st1 120).2 80
        refine ⟨_, rfl, ?_⟩
        have e0 : rdFile st1 = (⟨1, (rdN st1 120).1, (rdN (rdN st1 120).2 80).1, (rdSeqs 5 (rdN (rdN st1 120).2 80).2).1, []⟩, (rdSeqs 5 (rdN (rdN st1 120).2 80).2).2) := rfl
        rw [e0]
        generalize (rdN (rdN st1 120).2 80).2 = st2 at *
        refine loop6 (a := .int .i64) (b := .int .i64) (c := .int .i64) (d := .int .i64) (e := .sl) (f := .sl) (fun (x : Int) (k : Int) (l : Int) (z : Int) (s : Sl) (e : Sl) V' => ∃ (i : Nat) (cs : List Value), x = i ∧ i ≤ 5 ∧ k = (rdN st 2).1 ∧ l = (rdN st1 120).1 ∧ z = (rdN (rdN st1 120).2 80).1 ∧ e = ⟨none, 0, 0⟩ ∧
            Buf V' s 3 1 cs ∧ Buf (V'.minus s) y 55 5 ycs ∧ repL V0 cs (rdSeqs i st2).1 ∧ Rd ((V'.minus s).minus y) p (rdSeqs i st2).2 ∧ V0.Le (((V'.minus s).minus y).hide p)) (fun (x : Int) _ _ _ _ _ _ => 5 - x.toNat) ⟨0, [], rfl, by omega, rfl, rfl, rfl, rfl, Buf.nil _ _ _, hb5, rfl, hR5, hV5⟩ ?_
        rintro (x : Int) (k : Int) (l : Int) (z : Int) (s : Sl) (e : Sl) V6 ⟨i6, cs, rfl, hi6, rfl, rfl, rfl, rfl, hs6, hy6, hr6, hR6, hV6⟩
        refine br_intro (fun hlt => ?_) (fun hge => ?_)
        · have hlt : i6 < 5 := by have := of_decide_eq_true hlt; omega
          have hn6 := hs6.n_eq (α := Int) hr6
          rw [rdSeqs_len] at hn6
          have down : ∀ {V' : View} {s : Sl}, V0.Le (((V'.minus s).minus y).hide p) → V0.Le V' := fun h => h.trans ((View.hide_le _ _).trans ((View.minus_le _ _).trans (View.minus_le _ _)))
          refine ⟨trivial, V0, down hV6, ((rd3Number_ok (most := 1099511627776) hR6 (by decide)).besideB2 hs6 hy6).mono ?_⟩
          rintro r V7 ⟨U, ⟨rfl, hR7, hV7⟩, hU, hs7, hy7⟩
          have hR7 := hR7.mono hU
          have hV7 := hV6.trans (hV7.trans (hide_mono hU p))
          have hq := rdN_range (rdSeqs i6 st2).2 1099511627776
          refine ⟨_, rfl, down hV7, fun r hr1 => ⟨(down hV7).trans (View.put_le (View.see_none_of_ge hr1)), ?_⟩⟩
          refine app1b (α := Int) rfl hs7 hy7 hr6 (d := (rdN (rdSeqs i6 st2).2 1099511627776).1) (vs := [.int .i64 (rdN (rdSeqs i6 st2).2 1099511627776).1]) ⟨rfl, inI64 (by omega) (by omega)⟩ hR7 hV7 hr1 rfl (by show (s.n + 1) * 8 ≤ _; omega) (by show s.n + 1 ≤ _; omega) ?_
          intro s8 V8 hs8 hy8 hr8 hR8 hV8
          exact ⟨inI64 (by omega) (by omega), ⟨i6 + 1, _, by omega, by omega, rfl, rfl, rfl, rfl, hs8, hy8, hr8, hR8, hV8⟩, by omega⟩
        · have hge : i6 = 5 := by have := of_decide_eq_false hge; omega
          subst hge
          have hsy := hy6.swap hs6
          have hmm := minus_minus_le V6 s y
          have hx := hR6.mono hmm
          obtain ⟨_, _, _, ⟨_, ho⟩, _⟩ := hx
          refine ⟨h1, rfl, rfl, hy6.mono (View.minus_le _ _), ⟨one64, inI64 (by simp only; omega) (by simp only; omega), inI64 (by simp only; omega) (by simp only; omega), ?_, SlR.nil _ _ _⟩, hR6.mono (hmm.trans (View.minus_le _ _)), hV6.trans (hide_mono (hmm.trans (View.minus_le _ _)) p)⟩
          exact (hsy.hide ho).slR (W := V0) hr6 (hV6.trans (hide_mono (hmm.trans (View.minus_le _ _)) p))
      · have h1 : ¬ (rdN st 2).1 = 1 := of_decide_eq_false h1
        refine joinP_cut (fun q V' => q.1 = (rdNod st).1.kind ∧ q.2.1 = (rdNod st).1.links ∧ q.2.2.1 = (rdNod st).1.size ∧ Buf V' y 55 5 ycs ∧ NodR ((V'.minus y).hide p) q.2.2.2.1 q.2.2.2.2.1 (rdNod st).1 ∧ Rd (V'.minus y) p (rdNod st).2 ∧ V0.Le ((V'.minus y).hide p)) (br_intro (fun h2 => ?_) (fun h2 => ?_)) ?_
        · have h2 : (rdN st 2).1 = 2 := of_decide_eq_true h2
          have hD : rdNod st = rdDir (rdN st 2).2 := by unfold rdNod; rw [if_neg h1, if_pos h2]
          rw [hD]
          generalize (rdN st 2).2 = st1 at *
          refine ((rd3Number_ok (most := 10) hR3 (by decide)).besideB hb3).mono ?_
          rintro r V4 ⟨U, ⟨rfl, hR4, hV4⟩, hU, hb4⟩
          have hR4 := hR4.mono hU
          have hV4 := hV3.trans (hV4.trans (hide_mono hU p))
          have hl1 := rdN_range st1 10
          refine ⟨_, rfl, ?_⟩
          have e0 : rdDir st1 = (⟨2, 1, 0, [], (rdEnts (rdN st1 10).1.toNat (rdN st1 10).2).1⟩, (rdEnts (rdN st1 10).1.toNat (rdN st1 10).2).2) := rfl
          rw [e0]
          generalize (rdN st1 10).2 = st2 at *
          obtain ⟨m, hm⟩ : ∃ m : Nat, (rdN st1 10).1 = m := ⟨(rdN st1 10).1.toNat, by omega⟩
          rw [hm] at hl1 ⊢
          rw [Int.toNat_natCast]
          refine loop6 (a := .int .i64) (b := .int .i64) (c := .int .i64) (d := .int .i64) (e := .sl) (f := .sl) (fun (x : Int) (k : Int) (l : Int) (z : Int) (s : Sl) (e : Sl) V' => ∃ (i : Nat) (cs : List Value), x = i ∧ i ≤ m ∧ k = (rdN st 2).1 ∧ l = 1 ∧ z = 0 ∧ s = ⟨none, 0, 0⟩ ∧
              Buf V' e 61 2 cs ∧ Buf (V'.minus e) y 55 5 ycs ∧ repL V0 cs (rdEnts i st2).1 ∧ Rd ((V'.minus e).minus y) p (rdEnts i st2).2 ∧ V0.Le (((V'.minus e).minus y).hide p)) (fun (x : Int) _ _ _ _ _ _ => m - x.toNat) ⟨0, [], rfl, by omega, rfl, rfl, rfl, rfl, Buf.nil _ _ _, hb4, rfl, hR4, hV4⟩ ?_
          rintro (x : Int) (k : Int) (l : Int) (z : Int) (s : Sl) (e : Sl) V6 ⟨i6, cs, rfl, hi6, rfl, rfl, rfl, rfl, hs6, hy6, hr6, hR6, hV6⟩
          refine br_intro (fun hlt => ?_) (fun hge => ?_)
          · have hlt : i6 < m := by have := of_decide_eq_true hlt; omega
            have hn6 := hs6.n_eq (α := Ent) hr6
            rw [rdEnts_len] at hn6
            have down : ∀ {V' : View} {s : Sl}, V0.Le (((V'.minus s).minus y).hide p) → V0.Le V' := fun h => h.trans ((View.hide_le _ _).trans ((View.minus_le _ _).trans (View.minus_le _ _)))
            refine ((rd3Text_ok (most := 8) hR6 (by decide)).besideB2 hs6 hy6).mono ?_
            rintro r V7 ⟨U, ⟨tx, rfl, htx, hR7, hV7⟩, hU, hs7, hy7⟩
            have hR7 := hR7.mono hU
            have hV7 := hV6.trans (hV7.trans (hide_mono hU p))
            have htl := rdT_size (rdEnts i6 st2).2 8
            refine ⟨tx, rfl, ba (rdT (rdEnts i6 st2).2 8).1, ?_, trivial, V0, down hV7, ((rd3Number_ok (most := 11) hR7 (by decide)).besideB2 hs7 hy7).mono ?_⟩
            · exact u8_row (htx.mono ((hide_mono hU p).trans ((View.hide_le _ _).trans ((View.minus_le _ _).trans (View.minus_le _ _)))))
            rintro r V8 ⟨U, ⟨rfl, hR8, hV8⟩, hU, hs8, hy8⟩
            have hR8 := hR8.mono hU
            have hV8 := hV7.trans (hV8.trans (hide_mono hU p))
            have hq := rdN_range (rdT (rdEnts i6 st2).2 8).2 11
            refine ⟨_, rfl, down hV8, fun r hr1 => ⟨(down hV8).trans (View.put_le (View.see_none_of_ge hr1)), ?_⟩⟩
            refine app1b (α := Ent) rfl hs8 hy8 hr6 (d := ⟨ba (rdT (rdEnts i6 st2).2 8).1, (rdN (rdT (rdEnts i6 st2).2 8).2 11).1⟩) (vs := [.string (ba (rdT (rdEnts i6 st2).2 8).1), .int .i64 (rdN (rdT (rdEnts i6 st2).2 8).2 11).1])
              ⟨rfl, by show (rdT (rdEnts i6 st2).2 8).1.length ≤ _; omega, inI64 (by simp only; omega) (by simp only; omega)⟩ hR8 hV8 hr1 rfl (by show (e.n + 1) * 24 ≤ _; omega) (by show e.n + 1 ≤ _; omega) ?_
            intro s9 V9 hs9 hy9 hr9 hR9 hV9
            exact ⟨inI64 (by omega) (by omega), ⟨i6 + 1, _, by omega, by omega, rfl, rfl, rfl, rfl, hs9, hy9, hr9, hR9, hV9⟩, by omega⟩
          · have hge : i6 = m := by have := of_decide_eq_false hge; omega
            subst hge
            have hsy := hy6.swap hs6
            have hmm := minus_minus_le V6 e y
            have hx := hR6.mono hmm
            obtain ⟨_, _, _, ⟨_, ho⟩, _⟩ := hx
            refine ⟨h2, rfl, rfl, hy6.mono (View.minus_le _ _), ⟨two64, one64, zero64, SlR.nil _ _ _, ?_⟩, hR6.mono (hmm.trans (View.minus_le _ _)), hV6.trans (hide_mono (hmm.trans (View.minus_le _ _)) p)⟩
            exact (hsy.hide ho).slR (W := V0) hr6 (hV6.trans (hide_mono (hmm.trans (View.minus_le _ _)) p))
        · have h2 : ¬ (rdN st 2).1 = 2 := of_decide_eq_false h2
          have hD : rdNod st = (⟨(rdN st 2).1, 0, 0, [], []⟩, (rdN st 2).2) := by unfold rdNod; rw [if_neg h1, if_neg h2]
          rw [hD]
          exact ⟨rfl, rfl, rfl, hb3, ⟨inI64 (by simp only; omega) (by simp only; omega), zero64, zero64, SlR.nil _ _ _, SlR.nil _ _ _⟩, hR3, hV3⟩
        · rintro ⟨k, l, z, s, e, ⟨⟩⟩ V' h
          exact h
    · rintro ⟨k, l, z, s, e, ⟨⟩⟩ V' ⟨h1, h2, h3, h4, h5, h6, h7⟩
      simp only at h1 h2 h3 h5
      subst h1 h2 h3
      dsimp only [unc]
      refine fun r hr1 => fin h4 h5 h6 h7 hr1 fun s9 V9 h9 => ⟨inI64 (by omega) (by omega), h9, by omega⟩
  · have hge : i = 12 := by have := of_decide_eq_false hge; omega
    subst hge
    have hRd : Rd V2 p (rdTre 12 (some l)).2 := hR2.mono (View.minus_le _ _)
    have hsl : SlR V2 y (rdTre 12 (some l)).1 := hb.slR hr ((View.hide_le _ _).trans (View.minus_le _ _))
    refine joinP_cut (fun q V' => q.1 = (!decide ((rdTre 12 (some l)).2 = some [] ∧ mayT (rdTre 12 (some l)).1 = true)) ∧ V2.Le V') ?_ ?_
    · obtain ⟨sr, er, bs, h1, h2, h3, h4⟩ := hRd
      refine ⟨er, h1.c1, ?_⟩
      rcases h4 with ⟨h4, rfl⟩ | ⟨h4, rfl⟩
      · refine br_intro (fun h => absurd h (by decide)) (fun _ => ⟨sr, h1.c0, ?_⟩)
        have h2n := h2.n
        refine br_intro (fun h0 => ⟨?_, View.Le.refl _⟩) (fun h0 => (mayTree_ok hsl).mono ?_)
        · have h0 := of_decide_eq_false (not_t h0)
          rw [decide_eq_false]; · rfl
          rintro ⟨h5, _⟩
          rw [h4] at h5; cases h5
          exact h0 (by simp at h2n; omega)
        · have h0 := of_decide_eq_true (not_f h0)
          rintro r V3 ⟨rfl, hV3⟩
          refine ⟨_, rfl, ?_, hV3⟩
          have : bs = [] := List.eq_nil_of_length_eq_zero (by omega)
          rw [h4, this]
          simp
      · refine br_intro (fun _ => ⟨?_, View.Le.refl _⟩) (fun h => absurd h (by decide))
        rw [h4]
        rw [decide_eq_false (by rintro ⟨h5, _⟩; cases h5)]; rfl
    · rintro ⟨q, ⟨⟩⟩ V4 ⟨h1, hV⟩
      simp only at h1 hV
      subst h1
      dsimp only [unc]
      refine br_intro (fun hb => ⟨⟨none, 0, 0⟩, 5, rfl, ?_, q2.trans hV⟩) (fun hb => ⟨y, 0, rfl, ?_, q2.trans hV⟩)
      · have hb := of_decide_eq_false (not_t hb)
        have hP : parseT l = none := by unfold parseT; rw [if_neg hb]
        rw [hP]; exact ⟨rfl, rfl⟩
      · have hb := of_decide_eq_true (not_f hb)
        have hP : parseT l = some (rdTre 12 (some l)).1 := by unfold parseT; rw [if_pos hb]
        rw [hP]; exact ⟨hsl.mono hV, rfl⟩
end Go.Proofs.Ytpalkdmngckcoaa

/- Elements of rows of one's own that are set; rows that grow by an element. -/
namespace Go.Proofs.Ytpalkdmngckcoaa
open Go
theorem repL.set {α : Type} [Rep α] {W : View} {d : α} {ds : List Value} (hd : Rep.rep W ds d) : ∀ {cs : List Value} {l : List α} {i : Nat}, repL W cs l → i < l.length → repL W (putL cs (i * Rep.sz α) ds) (l.set i d)
  | _, [], i, _, hi => absurd hi (by simp)
  | _, x :: l, 0, ⟨vs, us, e, h1, h2⟩, _ => by
    have hv := Rep.len h1; have hdl := Rep.len hd
    refine ⟨ds, us, ?_, hd, h2⟩
    rw [Nat.zero_mul, putL_eq _ _ _ (by rw [e, List.length_append]; omega), e, List.take_zero, List.nil_append, Nat.zero_add, List.drop_append_of_le_length (by omega), List.drop_of_length_le (by omega), List.nil_append]
  | _, x :: l, i + 1, ⟨vs, us, e, h1, h2⟩, hi => by
    have hv := Rep.len h1; have hdl := Rep.len hd; have hul := h2.len
    have hi' : i < l.length := by simpa using hi
    have hle := Nat.mul_le_mul_right (Rep.sz α) (show i + 1 ≤ l.length from hi')
    rw [Nat.add_mul] at hle
    refine ⟨vs, putL us (i * Rep.sz α) ds, ?_, h1, repL.set hd h2 hi'⟩
    rw [putL_eq _ _ _ (by rw [e, List.length_append, Nat.add_mul]; omega), putL_eq _ _ _ (by omega), e, Nat.add_mul]
    rw [show i * Rep.sz α + 1 * Rep.sz α = vs.length + i * Rep.sz α by omega, List.take_append, List.drop_append]
    rw [List.take_of_length_le (show vs.length ≤ vs.length + i * Rep.sz α by omega), List.drop_of_length_le (show vs.length ≤ vs.length + i * Rep.sz α + ds.length by omega)]
    rw [show vs.length + i * Rep.sz α - vs.length = i * Rep.sz α by omega, show vs.length + i * Rep.sz α + ds.length - vs.length = i * Rep.sz α + ds.length by omega]
    simp [List.append_assoc]
theorem putL_take : ∀ (vs cs : List Value) (off m : Nat), (putL cs off vs).take m = putL (cs.take m) off vs
  | [], _, _, _ => rfl
  | v :: vs, cs, off, m => by rw [putL, putL, putL_take vs, List.take_set]
/-- Cells of a row of one's own may be set; all else is as it was. -/
theorem Buf.set {V : View} {x : Sl} {e : TypeId} {sz : Nat} {cs vs : List Value} (h : Buf V x e sz cs) {off : Nat} (hk : off + vs.length ≤ x.n * sz) (hv : 0 < vs.length) {ad : Addr} (ha : x.a = some ad) :
    canSet V (ad.add off) vs.length ∧ Buf (V.sets (ad.add off) vs) x e sz (putL cs off vs) ∧ (V.minus x).Le ((V.sets (ad.add off) vs).minus x) := by
  rcases h.own with ⟨h1, _⟩ | ⟨r, all, h1, h2, h3, h4⟩
  · rw [h1] at ha; cases ha
  · rw [h1] at ha; cases ha
    have hle := Nat.mul_le_mul_right sz h.le
    have e0 : (⟨r, 0, none⟩ : Addr).add off = ⟨r, off, none⟩ := by rw [addr0_add]; simp
    have hlen := h.len
    rw [e0, sets_see h2]
    refine ⟨canSet_of h2 (by omega), ⟨?_, h.le, h.lim, .inr ⟨r, _, h1, View.see_put_same _ _ _, ?_, ?_⟩⟩, ?_⟩
    · rw [putL_eq _ _ _ (by omega)]; simp; omega
    · rw [putL_eq _ _ _ (by omega)]; simp; omega
    · rw [putL_take, h4]
    · unfold View.minus; rw [h1]; exact hide_le_put_hide r _
/-- Element i of a row of one's own, set. -/
theorem Buf.setE {α : Type} [Rep α] {V : View} {x : Sl} {e : TypeId} {cs vs : List Value} {l : List α} {d : α} (h : Buf V x e (Rep.sz α) cs) (hr : repL (V.minus x) cs l) (hd : Rep.rep (V.minus x) vs d) {i : Nat} (hi : i < l.length) :
    ∃ ad, x.a = some ad ∧ canSet V (ad.add (i * Rep.sz α)) vs.length ∧ Buf (V.sets (ad.add (i * Rep.sz α)) vs) x e (Rep.sz α) (putL cs (i * Rep.sz α) vs) ∧ repL ((V.sets (ad.add (i * Rep.sz α)) vs).minus x) (putL cs (i * Rep.sz α) vs) (l.set i d) ∧ (V.minus x).Le ((V.sets (ad.add (i * Rep.sz α)) vs).minus x) := by
  have hn : x.n = l.length := Nat.eq_of_mul_eq_mul_right (Rep.pos (α := α)) (h.len.symm.trans hr.len)
  have hv := Rep.len hd
  have hle := Nat.mul_le_mul_right (Rep.sz α) (show i + 1 ≤ x.n by omega)
  rw [Nat.add_mul] at hle
  have hp := Rep.pos (α := α)
  rcases h.own with ⟨h1, h2⟩ | ⟨r, all, h1, _⟩
  · have := h.le; omega
  · obtain ⟨a, b, c⟩ := h.set (off := i * Rep.sz α) (vs := vs) (by omega) (by omega) h1
    exact ⟨_, h1, a, b, (hr.mono c).set (Rep.mono c hd) hi, c⟩
/-- An element in a new block, appended to a row of one's own. -/
theorem app0 {α : Type} [Rep α] {V V0 : View} {r : Nat} {x : Sl} {e : TypeId} {bytes : Nat} {zero : List Value} {cs vs : List Value} {l : List α} {d : α} {C : Sl → View → Prop} {ob : Obj} {te : TypeId}
    (hz : zero.length = Rep.sz α) (hb : Buf V x e (Rep.sz α) cs) (hr : repL (V.minus x) cs l) (hd : Rep.rep (V.minus x) vs d) (hle : V0.Le (V.minus x)) (hnew : V.size ≤ r) (hob : ob = .cells ⟨vs⟩ te (0, 0))
    (hm : (x.n + 1) * bytes ≤ 140737488355328) (hm2 : x.n + 1 ≤ 140737488355328)
    (hC : ∀ s V' cs', Buf V' s e (Rep.sz α) cs' → repL (V'.minus s) cs' (l ++ [d]) → V0.Le (V'.minus s) → C s V') :
    apV (V.put r ob) e (Rep.sz α) bytes zero x (.slice (some ⟨r, 0, none⟩) 1 1) C := by
  subst hob
  have hfr : V.see r = none := View.see_none_of_ge hnew
  have hvl : vs.length = Rep.sz α := Rep.len hd
  refine apV_buf hz (hb.put hfr) (src := vs) (m := 1) ⟨rfl, rowAt_new (View.see_put_same _ _ _) (by rw [Nat.one_mul]; exact hvl)⟩ (by rw [Nat.one_mul]; exact hvl) (Rep.one hd) hm hm2 fun s V' hb' _ hle' => ?_
  have h1 : (V.minus x).Le (V'.minus s) := (put_minus_le hfr).trans hle'
  exact hC s V' _ hb' ((hr.mono h1).snoc (Rep.mono h1 hd)) (hle.trans h1)
/-- A row of data copied behind a row of one's own. -/
theorem appRow {α : Type} [Rep α] {V V0 : View} {x y : Sl} {e : TypeId} {bytes : Nat} {zero : List Value} {cs : List Value} {l m : List α} {C : Sl → View → Prop}
    (hz : zero.length = Rep.sz α) (hb : Buf V x e (Rep.sz α) cs) (hr : repL (V.minus x) cs l) (hy : SlR (V.minus x) y m) (hle : V0.Le (V.minus x))
    (hm : (l.length + m.length) * bytes ≤ 140737488355328) (hm2 : l.length + m.length ≤ 140737488355328)
    (hC : ∀ s V' cs', Buf V' s e (Rep.sz α) cs' → repL (V'.minus s) cs' (l ++ m) → V0.Le (V'.minus s) → C s V') :
    apV V e (Rep.sz α) bytes zero x (.slice y.a y.n y.c) C := by
  obtain ⟨cy, hrow, hcy⟩ := hy.row
  have hyn := hy.n
  have hn : x.n = l.length := Nat.eq_of_mul_eq_mul_right (Rep.pos (α := α)) (hb.len.symm.trans hr.len)
  have hrow' : rowAt V y.a (y.n * Rep.sz α) cy := by
    cases ha : y.a with
    | none => rw [ha] at hrow; exact hrow
    | some a => rw [ha] at hrow; exact ⟨hrow.1, cellsAt_mono (View.minus_le _ _) hrow.2⟩
  refine apV_buf hz hb (src := cy) (m := y.n) ⟨rfl, hrow'⟩ (by rw [hcy.len, hyn]) hcy.one (by rw [hn, hyn]; exact hm) (by rw [hn, hyn]; exact hm2) fun s V' hb' _ hle' => ?_
  exact hC s V' _ hb' ((hr.mono hle').append (hcy.mono hle')) (hle.trans hle')
end Go.Proofs.Ytpalkdmngckcoaa

/- Contracts of copies of trees, and of trees that are cleared. -/
namespace Go.Proofs.Ytpalkdmngckcoaa
open Go
theorem cloneI_ok {s : Sl} {l : List Int} {V : View} (h : SlR V s l) (hl : l.length ≤ 1000) : CallV Try.prog 82 ⟨[.slice s.a s.n s.c]⟩ V fun r V' => ∃ x : Sl, r = .slice x.a x.n x.c ∧ SlR V' x l ∧ V.Le V' := by
  refine f82_x ?_
  unfold f82_n
  refine br_intro (fun hnil => ?_) (fun _ r hr => ?_)
  · have ha : s.a = none := Option.isNone_iff_eq_none.1 hnil
    have hl0 : l = [] := by
      cases l with
      | nil => rfl
      | cons b l => obtain ⟨ad, vs, h1, _⟩ := h.get 0 (by simp); rw [ha] at h1; cases h1
    subst hl0
    exact ⟨⟨none, 0, 0⟩, rfl, SlR.nil _ _ _, View.Le.refl V⟩
  · have hfr : V.see r = none := View.see_none_of_ge hr
    refine appRow (α := Int) (V0 := V) (l := []) (m := l) rfl (cs := []) ⟨rfl, Nat.le_refl _, Nat.zero_le _, .inr ⟨r, [], rfl, View.see_put_same _ _ _, rfl, rfl⟩⟩ rfl (h.mono ?_) ?_ (by simp; omega) (by simp; omega) ?_
    · exact put_le_hide hfr (View.Le.refl _)
    · exact put_le_hide hfr (View.Le.refl _)
    · intro z V' cs' hb hr' hle
      exact ⟨z, rfl, hb.slR hr' (View.minus_le _ _), hle.trans (View.minus_le _ _)⟩
theorem cloneE_ok {s : Sl} {l : List Ent} {V : View} (h : SlR V s l) (hl : l.length ≤ 1000) : CallV Try.prog 83 ⟨[.slice s.a s.n s.c]⟩ V fun r V' => ∃ x : Sl, r = .slice x.a x.n x.c ∧ SlR V' x l ∧ V.Le V' := by
  refine f83_x ?_
  unfold f83_n
  refine br_intro (fun hnil => ?_) (fun _ r hr => ?_)
  · have ha : s.a = none := Option.isNone_iff_eq_none.1 hnil
    have hl0 : l = [] := by
      cases l with
      | nil => rfl
      | cons b l => obtain ⟨ad, vs, h1, _⟩ := h.get 0 (by simp); rw [ha] at h1; cases h1
    subst hl0
    exact ⟨⟨none, 0, 0⟩, rfl, SlR.nil _ _ _, View.Le.refl V⟩
  · have hfr : V.see r = none := View.see_none_of_ge hr
    refine appRow (α := Ent) (V0 := V) (l := []) (m := l) rfl (cs := []) ⟨rfl, Nat.le_refl _, Nat.zero_le _, .inr ⟨r, [], rfl, View.see_put_same _ _ _, rfl, rfl⟩⟩ rfl (h.mono ?_) ?_ (by simp; omega) (by simp; omega) ?_
    · exact put_le_hide hfr (View.Le.refl _)
    · exact put_le_hide hfr (View.Le.refl _)
    · intro z V' cs' hb hr' hle
      exact ⟨z, rfl, hb.slR hr' (View.minus_le _ _), hle.trans (View.minus_le _ _)⟩
def LightN (n : Nod) : Prop := n.seqs.length ≤ 1000 ∧ n.ents.length ≤ 1000
theorem mayN_light {n : Nod} (h : mayN n = true) : LightN n := by
  have a := mayN_seqs h
  have b := mayL_len (mayN_ents h)
  exact ⟨by omega, by omega⟩
theorem copyN_ok {n : Nod} {s e : Sl} {V : View} (h : NodR V s e n) (hl : LightN n) : CallV Try.prog 72 ⟨[nodV n s e]⟩ V fun r V' => ∃ s' e' : Sl, r = nodV n s' e' ∧ NodR V' s' e' n ∧ V.Le V' := by
  refine f72_x ?_
  unfold f72_n
  refine fun _ _ => ⟨trivial, V, View.Le.refl _, (cloneI_ok h.seqs hl.1).mono ?_⟩
  rintro r V1 ⟨x, rfl, hx, hV1⟩
  refine ⟨x, rfl, hV1, (cloneE_ok (h.ents.mono hV1) hl.2).mono ?_⟩
  rintro r V2 ⟨y, rfl, hy, hV2⟩
  exact ⟨y, rfl, x, y, rfl, ⟨h.kind, h.links, h.size, hx.mono hV2, hy⟩, hV1.trans hV2⟩
theorem refCopyN_ok {n : Nod} {s e : Sl} {V : View} (h : NodR V s e n) (hl : LightN n) : CallV Try.prog 73 ⟨[nodV n s e]⟩ V fun r V' => ∃ s' e' : Sl, r = nodV n s' e' ∧ NodR V' s' e' n ∧ V.Le V' := by
  refine f73_x ?_
  unfold f73_n
  have l1 := hl.1
  have l2 := hl.2
  refine fun _ _ => ⟨trivial, V, View.Le.refl _, ?_⟩
  refine appRow (α := Int) (V0 := V) (l := []) (m := n.seqs) rfl (cs := []) (Buf.nil _ _ _) rfl h.seqs (View.Le.refl _) (by simp; omega) (by simp; omega) ?_
  intro x V1 cs hb hr hV1
  have hV1' := hV1.trans (View.minus_le _ _)
  refine ⟨hV1', ?_⟩
  refine appRow (α := Ent) (V0 := V1) (l := []) (m := n.ents) rfl (cs := []) (Buf.nil _ _ _) rfl (h.ents.mono hV1') (View.Le.refl _) (by simp; omega) (by simp; omega) ?_
  intro y V2 cs2 hb2 hr2 hV2
  have hV2' := hV2.trans (View.minus_le _ _)
  exact ⟨x, y, rfl, ⟨h.kind, h.links, h.size, (hb.slR hr (View.minus_le _ _)).mono hV2', hb2.slR hr2 (View.minus_le _ _)⟩, hV1'.trans hV2'⟩
/-- A tree of one's own: the row of its nodes is one's own. -/
def OwnT (V0 V : View) (x : Sl) (t : Tre) : Prop := ∃ cs, Buf V x 55 5 cs ∧ repL (V.minus x) cs t ∧ V0.Le (V.minus x)
theorem OwnT.slR {V0 V : View} {x : Sl} {t : Tre} (h : OwnT V0 V x t) : SlR V x t := by
  obtain ⟨cs, hb, hr, _⟩ := h
  exact hb.slR hr (View.minus_le _ _)
theorem OwnT.le {V0 V : View} {x : Sl} {t : Tre} (h : OwnT V0 V x t) : V0.Le V := by
  obtain ⟨cs, hb, hr, hle⟩ := h
  exact hle.trans (View.minus_le _ _)
theorem OwnT.mono {V0 V V' : View} {x : Sl} {t : Tre} (h : OwnT V0 V x t) (hV : V.Le V') : OwnT V0 V' x t := by
  obtain ⟨cs, hb, hr, hle⟩ := h
  have := minus_mono hV x
  exact ⟨cs, hb.mono hV, hr.mono this, hle.trans this⟩
theorem OwnT.from {U V0 V : View} {x : Sl} {t : Tre} (h : OwnT V0 V x t) (hV : U.Le V0) : OwnT U V x t := by
  obtain ⟨cs, hb, hr, hle⟩ := h
  exact ⟨cs, hb, hr, hV.trans hle⟩
/-- A node is set. -/
theorem OwnT.set {V0 V : View} {x : Sl} {t : Tre} (h : OwnT V0 V x t) {i : Nat} (hi : i < t.length) {n : Nod} {vs : List Value} (hn : ∀ cs, Buf V x 55 5 cs → Rep.rep (V.minus x) vs n) :
    ∃ ad, x.a = some ad ∧ canSet V (ad.add (i * 5)) 5 ∧ OwnT V0 (V.sets (ad.add (i * 5)) vs) x (t.set i n) := by
  obtain ⟨cs, hb, hr, hle⟩ := h
  have hd := hn cs hb
  have h5 : vs.length = 5 := Rep.len hd
  obtain ⟨ad, ha, h1, h2, h3, h4⟩ := hb.setE (α := Nod) hr hd hi
  rw [h5] at h1
  exact ⟨ad, ha, h1, _, h2, h3, hle.trans h4⟩
theorem copyT_ok {s : Sl} {t : Tre} {V : View} (h : SlR V s t) (hl : t.length ≤ 1000 ∧ ∀ n ∈ t, LightN n) : CallV Try.prog 53 ⟨[treV s]⟩ V fun r V' => ∃ x : Sl, r = treV x ∧ OwnT V V' x t := by
  refine f53_x ?_
  unfold f53_n
  have hn := h.n
  refine fun _ _ _ => loop2 (k := .int .i64) (l := .sl) (fun (j : Int) (x : Sl) V' => ∃ i : Nat, j = i ∧ i ≤ t.length ∧ OwnT V V' x (t.take i)) (fun (j : Int) _ _ => t.length - j.toNat) ⟨0, rfl, by omega, [], Buf.nil _ _ _, rfl, View.Le.refl _⟩ ?_
  rintro (j : Int) (x : Sl) V1 ⟨i, rfl, hi, hO⟩
  have hV1 := hO.le
  refine br_intro (fun hlt => ?_) (fun hge => ?_)
  · have hlt : i < t.length := by have := of_decide_eq_true hlt; omega
    obtain ⟨cs, hb, hr, hle⟩ := hO
    obtain ⟨ad, sq, en, ha, hc, hN⟩ := (h.mono hle).nodN hlt
    have hmem : t.getD i default ∈ t := by rw [getD_at hlt]; exact List.getElem_mem _
    have hx := hb.n_eq (α := Nod) hr
    rw [List.length_take] at hx
    have hl1 := hl.1
    refine ⟨by omega, by omega, ad, ha, _, _, _, sq, en, cellsAt_mono (View.minus_le _ _) hc, fun _ => ⟨trivial, V, hV1, ((copyN_ok hN (hl.2 _ hmem)).besideB hb).mono ?_⟩⟩
    rintro r V2 ⟨U, ⟨s', e', rfl, hN', hU⟩, hU2, hb2⟩
    have hle2 := hle.trans (hU.trans hU2)
    have hV2 := hle2.trans (View.minus_le _ _)
    refine ⟨_, _, _, s', e', rfl, hV2, fun r hr1 => ⟨hV2.trans (View.put_le (View.see_none_of_ge hr1)), ?_⟩⟩
    refine app0 (α := Nod) rfl hb2 (hr.mono (hU.trans hU2)) (hN'.mono hU2).rep hle2 hr1 rfl (by show (x.n + 1) * 72 ≤ _; omega) (by show x.n + 1 ≤ _; omega) ?_
    intro z V3 cs3 hb3 hr3 hle3
    refine ⟨inI64 (by omega) (by omega), ⟨i + 1, by omega, by omega, cs3, hb3, ?_, hle3⟩, by omega⟩
    rw [List.take_add_one, List.getElem?_eq_getElem hlt]
    rw [getD_at hlt] at hr3; exact hr3
  · have hge : i = t.length := by have := of_decide_eq_false hge; omega
    subst hge
    rw [List.take_length] at hO
    exact ⟨x, rfl, hO⟩
theorem refCopyT_ok {s : Sl} {t : Tre} {V : View} (h : SlR V s t) (hl : t.length ≤ 1000 ∧ ∀ n ∈ t, LightN n) : CallV Try.prog 54 ⟨[treV s]⟩ V fun r V' => ∃ x : Sl, r = treV x ∧ OwnT V V' x t := by
  refine f54_x ?_
  unfold f54_n
  have hn := h.n
  refine fun _ _ _ => loop2 (k := .int .i64) (l := .sl) (fun (j : Int) (x : Sl) V' => ∃ i : Nat, j = i ∧ i ≤ t.length ∧ OwnT V V' x (t.take i)) (fun (j : Int) _ _ => t.length - j.toNat) ⟨0, rfl, by omega, [], Buf.nil _ _ _, rfl, View.Le.refl _⟩ ?_
  rintro (j : Int) (x : Sl) V1 ⟨i, rfl, hi, hO⟩
  have hV1 := hO.le
  refine br_intro (fun hlt => ?_) (fun hge => ?_)
  · have hlt : i < t.length := by have := of_decide_eq_true hlt; omega
    obtain ⟨cs, hb, hr, hle⟩ := hO
    obtain ⟨ad, sq, en, ha, hc, hN⟩ := (h.mono hle).nodN hlt
    have hmem : t.getD i default ∈ t := by rw [getD_at hlt]; exact List.getElem_mem _
    have hx := hb.n_eq (α := Nod) hr
    rw [List.length_take] at hx
    have hl1 := hl.1
    refine ⟨by omega, by omega, ad, ha, _, _, _, sq, en, cellsAt_mono (View.minus_le _ _) hc, fun _ => ⟨trivial, V, hV1, ((refCopyN_ok hN (hl.2 _ hmem)).besideB hb).mono ?_⟩⟩
    rintro r V2 ⟨U, ⟨s', e', rfl, hN', hU⟩, hU2, hb2⟩
    have hle2 := hle.trans (hU.trans hU2)
    have hV2 := hle2.trans (View.minus_le _ _)
    refine ⟨_, _, _, s', e', rfl, hV2, fun r hr1 => ⟨hV2.trans (View.put_le (View.see_none_of_ge hr1)), ?_⟩⟩
    refine app0 (α := Nod) rfl hb2 (hr.mono (hU.trans hU2)) (hN'.mono hU2).rep hle2 hr1 rfl (by show (x.n + 1) * 72 ≤ _; omega) (by show x.n + 1 ≤ _; omega) ?_
    intro z V3 cs3 hb3 hr3 hle3
    refine ⟨inI64 (by omega) (by omega), ⟨i + 1, by omega, by omega, cs3, hb3, ?_, hle3⟩, by omega⟩
    rw [List.take_add_one, List.getElem?_eq_getElem hlt]
    rw [getD_at hlt] at hr3; exact hr3
  · have hge : i = t.length := by have := of_decide_eq_false hge; omega
    subst hge
    rw [List.take_length] at hO
    exact ⟨x, rfl, hO⟩
/-! ### cleared -/
/-- A file without names is none. -/
def clearN (n : Nod) : Nod := if n.kind = 1 ∧ n.links = 0 then Nod.zero else n
def clearU (t : Tre) : Tre := t.map clearN
noncomputable def clearT (t : Tre) : Tre := if mayT t then clearU t else []
theorem mayT_light {t : Tre} (h : mayT t = true) : t.length = 12 ∧ ∀ n ∈ t, LightN n := by
  unfold mayT at h
  simp only [Bool.and_eq_true, decide_eq_true_eq, List.all_eq_true] at h
  exact ⟨h.1.1.1.1, fun n hn => mayN_light (h.1.1.1.2 n hn)⟩
theorem clear_step (t : Tre) (i : Nat) (hi : i < t.length) : clearU (t.take (i + 1)) ++ t.drop (i + 1) = (clearU (t.take i) ++ t.drop i).set i (clearN (t.getD i default)) := by
  have h1 : (clearU (t.take i)).length = i := by simp [clearU]; omega
  rw [List.set_append_right _ _ (by omega), h1, Nat.sub_self, ← List.getElem_cons_drop (h := hi), List.set_cons_zero, List.take_add_one, List.getElem?_eq_getElem hi, getD_at hi]
  have e : clearU (t.take i ++ (some t[i]).toList) = clearU (t.take i) ++ [clearN t[i]] := List.map_append
  rw [e, List.append_assoc]; rfl
theorem clear_at (t : Tre) (i : Nat) (hi : i < t.length) : (clearU (t.take i) ++ t.drop i).getD i default = t.getD i default := by
  have h1 : (clearU (t.take i)).length = i := by simp [clearU]; omega
  rw [List.getD_eq_getElem?_getD, List.getElem?_append_right (by omega), h1, Nat.sub_self, List.getElem?_drop, Nat.add_zero, ← List.getD_eq_getElem?_getD]
theorem zero_rep {W : View} : Rep.rep W [.int .i64 0, .int .i64 0, .int .i64 0, .slice none 0 0, .slice none 0 0] Nod.zero := ⟨⟨none, 0, 0⟩, ⟨none, 0, 0⟩, rfl, zero64, zero64, zero64, SlR.nil _ _ _, SlR.nil _ _ _⟩
theorem zeroI : inI .i64 0 := zero64
theorem clear_loop {V0 V : View} {x : Sl} {t : Tre} (hO : OwnT V0 V x t) (hl : t.length ≤ 1000) {Q : Value → View → Prop} (hQ : ∀ V', OwnT V0 V' x (clearU t) → Q (treV x) V') :
    ∀ F : CurF (CurP [K.int .i64] → Prop) [K.int .i64], (∀ (j : Int) V J, F j V J = br (decide (j < (x.n : Int))) (0 ≤ j ∧ j < (x.n : Int) ∧ ∃ ad, x.a = some ad ∧ ∃ x_2 x_3 x_4 : Int, ∃ x_5 x_6 : Sl, cellsAt V (ad.add (j.toNat * 5)) [.int .i64 x_2, .int .i64 x_3, .int .i64 x_4, .slice x_5.a x_5.n x_5.c, .slice x_6.a x_6.n x_6.c] ∧ ∀ _b : Nat, joinP [] (fun J => br (bif decide (x_2 = 1) then decide (x_3 = 0) else false) (0 ≤ j ∧ j < (x.n : Int) ∧ ∃ ad, x.a = some ad ∧ canSet V (ad.add (j.toNat * 5)) 5 ∧ J (V.sets (ad.add (j.toNat * 5)) [.int .i64 0, .int .i64 0, .int .i64 0, .slice none 0 0, .slice none 0 0])) (J V)) fun V => inI .i64 (j + 1) ∧ J (j + 1) V) (Q (treV x) V)) →
    loopP [K.int .i64] F (0, ()) V := by
  intro F hF
  refine loop1 (k := .int .i64) (fun (j : Int) V' => ∃ i : Nat, j = i ∧ i ≤ t.length ∧ OwnT V0 V' x (clearU (t.take i) ++ t.drop i)) (fun (j : Int) _ => t.length - j.toNat) ⟨0, rfl, by omega, by simpa [clearU] using hO⟩ ?_
  rintro (j : Int) V1 ⟨i, rfl, hi, hO1⟩
  rw [hF]
  have hlen : (clearU (t.take i) ++ t.drop i).length = t.length := by simp [clearU]; omega
  have hxn := hO1.slR.n
  refine br_intro (fun hlt => ?_) (fun hge => ?_)
  · have hlt : i < t.length := by have := of_decide_eq_true hlt; omega
    obtain ⟨ad, sq, en, ha, hc, hN⟩ := hO1.slR.nodN (i := i) (by omega)
    rw [clear_at t i hlt] at hc hN
    refine ⟨by omega, by omega, ad, ha, _, _, _, sq, en, hc, fun _ => ?_⟩
    refine joinP_cut (fun _ V' => OwnT V0 V' x (clearU (t.take (i + 1)) ++ t.drop (i + 1))) (br_intro (fun hb => ?_) (fun hb => ?_)) ?_
    · have hb : (t.getD i default).kind = 1 ∧ (t.getD i default).links = 0 := by
        cases h1 : decide ((t.getD i default).kind = 1) with
        | true => rw [h1] at hb; exact ⟨of_decide_eq_true h1, of_decide_eq_true hb⟩
        | false => rw [h1] at hb; cases hb
      obtain ⟨ad2, ha2, h1, h2⟩ := hO1.set (i := i) (n := Nod.zero) (by omega) (fun _ _ => zero_rep)
      refine ⟨by omega, by omega, ad2, ha2, h1, ?_⟩
      rw [clear_step t i hlt, show clearN (t.getD i default) = Nod.zero by unfold clearN; rw [if_pos hb]]
      exact h2
    · have hb : ¬ ((t.getD i default).kind = 1 ∧ (t.getD i default).links = 0) := by
        rintro ⟨h1, h2⟩
        rw [decide_eq_true h1, decide_eq_true h2] at hb; cases hb
      show OwnT V0 V1 x _
      rw [clear_step t i hlt, show clearN (t.getD i default) = t.getD i default by unfold clearN; rw [if_neg hb]]
      have : (clearU (t.take i) ++ t.drop i).set i (t.getD i default) = clearU (t.take i) ++ t.drop i := by
        rw [← clear_at t i hlt, getD_at (by omega)]
        exact List.set_getElem_self _
      rw [this]; exact hO1
    · rintro ⟨⟩ V2 hO2
      exact ⟨inI64 (by omega) (by omega), ⟨i + 1, by omega, by omega, hO2⟩, by omega⟩
  · have hge : i = t.length := by have := of_decide_eq_false hge; omega
    subst hge
    rw [List.take_length, List.drop_length, List.append_nil] at hO1
    exact hQ V1 hO1
theorem clearT_ok {s : Sl} {t : Tre} {V : View} (h : SlR V s t) : CallV Try.prog 22 ⟨[treV s]⟩ V fun r V' => ∃ x : Sl, r = treV x ∧ SlR V' x (clearT t) ∧ V.Le V' := by
  refine f22_x ?_
  unfold f22_n
  refine fun _ _ => (mayT_ok h).mono ?_
  rintro r V1 ⟨rfl, hV1⟩
  refine ⟨_, rfl, br_intro (fun hb => ⟨⟨none, 0, 0⟩, rfl, ?_, hV1⟩) (fun hb => ?_)⟩
  · unfold clearT; rw [not_t hb]; exact SlR.nil _ _ _
  have hM := not_f hb
  obtain ⟨h12, hall⟩ := mayT_light hM
  refine (copyT_ok (h.mono hV1) ⟨by omega, hall⟩).mono ?_
  rintro r V2 ⟨x, rfl, hO⟩
  refine ⟨x, rfl, fun _ => clear_loop (Q := fun r V' => ∃ x : Sl, r = treV x ∧ SlR V' x (clearT t) ∧ V.Le V') hO (by omega) (fun V' hO' => ⟨x, rfl, ?_, hV1.trans hO'.le⟩) _ (fun _ _ _ => rfl)⟩
  unfold clearT; rw [if_pos hM]; exact hO'.slR
theorem refClearT_ok {s : Sl} {t : Tre} {V : View} (h : SlR V s t) : CallV Try.prog 23 ⟨[treV s]⟩ V fun r V' => ∃ x : Sl, r = treV x ∧ SlR V' x (clearT t) ∧ V.Le V' := by
  refine f23_x ?_
  unfold f23_n
  refine fun _ _ => (mayTree_ok h).mono ?_
  rintro r V1 ⟨rfl, hV1⟩
  refine ⟨_, rfl, br_intro (fun hb => ⟨⟨none, 0, 0⟩, rfl, ?_, hV1⟩) (fun hb => ?_)⟩
  · unfold clearT; rw [not_t hb]; exact SlR.nil _ _ _
  have hM := not_f hb
  obtain ⟨h12, hall⟩ := mayT_light hM
  refine (refCopyT_ok (h.mono hV1) ⟨by omega, hall⟩).mono ?_
  rintro r V2 ⟨x, rfl, hO⟩
  refine ⟨x, rfl, fun _ => clear_loop (Q := fun r V' => ∃ x : Sl, r = treV x ∧ SlR V' x (clearT t) ∧ V.Le V') hO (by omega) (fun V' hO' => ⟨x, rfl, ?_, hV1.trans hO'.le⟩) _ (fun _ _ _ => rfl)⟩
  unfold clearT; rw [if_pos hM]; exact hO'.slR
end Go.Proofs.Ytpalkdmngckcoaa

/- What is written is read as it was. No program in this text. -/
namespace Go.Proofs.Ytpalkdmngckcoaa
open Go
theorem rdN_enc {n : Int} {most : Nat} {r : List UInt8} (h0 : 0 ≤ n) (h1 : n ≤ most) (hm : most ≤ 1099511627776) : rdN (some (numI n ++ r)) most = (n, some r) := by
  have hc : clampN n = n.toNat := by unfold clampN; omega
  unfold rdN numI
  simp only [hc]
  rw [numP_numL (n := n.toNat) (most := most) (by omega) (by omega) r]
  simp only
  rw [Int.toNat_of_nonneg h0]
theorem rdT_enc {b : List UInt8} {most : Nat} {r : List UInt8} (h1 : b.length ≤ most) (hm : most ≤ 1099511627776) : rdT (some (textL b ++ r)) most = (b, some r) := by
  have hp : textP most (textL b ++ r) = some (b, r) := by
    unfold textP textL numI
    rw [clampN_nat (by omega), List.append_assoc, numP_numL (by omega) h1]
    simp only
    rw [if_neg (by simp), List.take_left' rfl, List.drop_left' rfl]
  simp only [rdT, hp]
theorem rdSeqs_enc : ∀ (k : Nat) (l : List Int) (r : List UInt8), l.length = k → (∀ n ∈ l, 0 ≤ n ∧ n ≤ 1099511627776) → rdSeqs k (some (numsL l ++ r)) = (l, some r)
  | 0, l, r, hl, _ => by
    have := List.eq_nil_of_length_eq_zero hl
    subst this; rfl
  | k + 1, l, r, hl, hr => by
    rcases List.eq_nil_or_concat l with h1 | ⟨l', x, h1⟩
    · rw [h1] at hl; cases hl
    · have h1 : l = l' ++ [x] := by simpa using h1
      subst h1
      have hx := hr x (by simp)
      have ih := rdSeqs_enc k l' (numI x ++ r) (by simpa using hl) fun n hn => hr n (by simp [hn])
      rw [numsL_append, numsL_one, List.append_assoc]
      unfold rdSeqs
      rw [ih]
      simp only
      rw [rdN_enc hx.1 hx.2 (by decide)]
theorem rdEnts_enc : ∀ (k : Nat) (l : List Ent) (r : List UInt8), l.length = k → (∀ e ∈ l, e.name.size ≤ 8 ∧ 0 ≤ e.node ∧ e.node ≤ 11) → rdEnts k (some (encEs l ++ r)) = (l, some r)
  | 0, l, r, hl, _ => by
    have := List.eq_nil_of_length_eq_zero hl
    subst this; rfl
  | k + 1, l, r, hl, hr => by
    rcases List.eq_nil_or_concat l with h1 | ⟨l', x, h1⟩
    · rw [h1] at hl; cases hl
    · have h1 : l = l' ++ [x] := by simpa using h1
      subst h1
      have hx := hr x (by simp)
      have ih := rdEnts_enc k l' (textL (bl x.name) ++ (numI x.node ++ r)) (by simpa using hl) fun n hn => hr n (by simp [hn])
      rw [encEs_snoc]
      unfold encE
      rw [List.append_assoc, List.append_assoc]
      unfold rdEnts
      rw [ih]
      simp only
      rw [rdT_enc (by rw [bl_len]; exact hx.1) (by decide)]
      simp only
      rw [rdN_enc hx.2.1 (by omega) (by decide), ba_bl]
theorem rdNod_enc {n : Nod} {r : List UInt8} (h : mayN n = true) : rdNod (some (encN n ++ r)) = (n, some r) := by
  obtain ⟨kind, links, size, seqs, ents⟩ := n
  have hm := h
  unfold mayN at hm
  simp only at hm
  split at hm
  · rename_i hk
    subst hk
    simp only [Bool.and_eq_true, decide_eq_true_eq, List.length_eq_zero_iff] at hm
    obtain ⟨⟨⟨rfl, rfl⟩, rfl⟩, rfl⟩ := hm
    rw [encN_0 (by decide) (by decide)]
    unfold rdNod
    rw [rdN_enc (by decide) (by decide) (by decide)]
    rfl
  · split at hm
    · rename_i hk
      subst hk
      unfold fileB within at hm
      simp only [Bool.and_eq_true, decide_eq_true_eq, List.length_eq_zero_iff, List.all_eq_true, List.mem_range] at hm
      obtain ⟨⟨⟨⟨⟨l0, l1⟩, ⟨z0, z1⟩⟩, h5⟩, rfl⟩, hs⟩ := hm
      have hs2 : ∀ n ∈ seqs, 0 ≤ n ∧ n ≤ 1099511627776 := fun n hn => by
        obtain ⟨i, hi, rfl⟩ := List.getElem_of_mem hn
        have := hs i hi
        unfold okS within at this
        rw [getD_at0 hi] at this
        simp only [Bool.and_eq_true, decide_eq_true_eq] at this
        exact this.1
      rw [encN_1 rfl]
      simp only [List.append_assoc]
      unfold rdNod
      rw [rdN_enc (n := 1) (by decide) (by decide) (by decide)]
      simp only [if_pos]
      unfold rdFile
      rw [rdN_enc l0 (by exact l1) (by decide)]
      simp only
      rw [rdN_enc z0 (by exact z1) (by decide)]
      simp only
      rw [rdSeqs_enc 5 seqs r h5 hs2]
    · split at hm
      · rename_i h1 hk
        subst hk
        simp only [Bool.and_eq_true, decide_eq_true_eq, List.length_eq_zero_iff] at hm
        obtain ⟨⟨⟨rfl, rfl⟩, rfl⟩, hl⟩ := hm
        have h10 := mayL_len hl
        have he : ∀ e ∈ ents, e.name.size ≤ 8 ∧ 0 ≤ e.node ∧ e.node ≤ 11 := fun e he => by
          have := mayL_node hl he
          have := mayB_size this.2.2
          omega
        rw [encN_2 rfl]
        simp only [List.append_assoc]
        unfold rdNod
        rw [rdN_enc (n := 2) (by decide) (by decide) (by decide)]
        simp only
        rw [if_neg (by decide), if_pos trivial]
        unfold rdDir
        rw [rdN_enc (n := ((ents.length : Nat) : Int)) (by omega) (by omega) (by decide)]
        simp only [Int.toNat_natCast]
        rw [rdEnts_enc ents.length ents r rfl he]
      · cases hm
theorem rdTre_enc : ∀ (k : Nat) (t : Tre) (r : List UInt8), t.length = k → (∀ n ∈ t, mayN n = true) → rdTre k (some (encT t ++ r)) = (t, some r)
  | 0, t, r, hl, _ => by
    have := List.eq_nil_of_length_eq_zero hl
    subst this; rfl
  | k + 1, t, r, hl, hr => by
    rcases List.eq_nil_or_concat t with h1 | ⟨t', x, h1⟩
    · rw [h1] at hl; cases hl
    · have h1 : t = t' ++ [x] := by simpa using h1
      subst h1
      have hx := hr x (by simp)
      have ih := rdTre_enc k t' (encN x ++ r) (by simpa using hl) fun n hn => hr n (by simp [hn])
      rw [encT_snoc, List.append_assoc]
      unfold rdTre
      rw [ih]
      simp only
      rw [rdNod_enc hx]
theorem mayT_facts {t : Tre} (h : mayT t = true) : t.length = 12 ∧ (∀ n ∈ t, mayN n = true) ∧ apartL (allS t) = true := by
  unfold mayT at h
  simp only [Bool.and_eq_true, decide_eq_true_eq, List.all_eq_true] at h
  exact ⟨h.1.1.1.1, h.1.1.1.2, h.2⟩
theorem rdT_full {t : Tre} (h : mayT t = true) (r : List UInt8) : rdTre 12 (some (encT t ++ r)) = (t, some r) := rdTre_enc 12 t r (mayT_facts h).1 (mayT_facts h).2.1
/-- What is written is read as it was. -/
theorem parseT_back {t : Tre} (h : mayT t = true) : parseT (encT t) = some t := by
  have := rdT_full h []
  rw [List.append_nil] at this
  unfold parseT
  rw [this, if_pos ⟨rfl, h⟩]
/-- Two trees with the same bytes are the same. -/
theorem encT_inj {t u : Tre} (ht : mayT t = true) (hu : mayT u = true) (h : encT t = encT u) : t = u := by
  have := parseT_back ht
  rw [h, parseT_back hu] at this
  exact (Option.some.inj this).symm
theorem parseT_cut {t : Tre} {m : Nat} (h : mayT t = true) (hm : m < (encT t).length) : parseT ((encT t).take m) = none := by
  cases hp : parseT ((encT t).take m) with
  | none => rfl
  | some u =>
    exfalso
    obtain ⟨hu, he⟩ := parseT_enc hp
    have h1 := rdT_full h []
    have h2 := rdT_full hu ((encT t).drop m)
    rw [he, List.take_append_drop] at h2
    rw [List.append_nil, h2] at h1
    have h3 : (encT t).drop m = [] := Option.some.inj (Prod.mk.inj h1).2
    have := List.length_drop (i := m) (l := encT t)
    rw [h3] at this
    simp at this
    omega
theorem parseT_more {t : Tre} {c : UInt8} (h : mayT t = true) : parseT (encT t ++ [c]) = none := by
  unfold parseT
  rw [rdT_full h [c], if_neg (by rintro ⟨h, _⟩; simp at h)]
theorem encN_pos (n : Nod) : 0 < (encN n).length := by
  unfold encN numI numL
  simp only [List.length_append, List.length_cons, List.length_nil]
  omega
theorem encT_pos {t : Tre} (h : mayT t = true) : 0 < (encT t).length := by
  have h12 := (mayT_facts h).1
  cases t with
  | nil => cases h12
  | cons n t =>
    have e : encT (n :: t) = encN n ++ encT t := by simp [encT]
    have := encN_pos n
    rw [e, List.length_append]; omega
end Go.Proofs.Ytpalkdmngckcoaa

/- RootCut: bytes that are cut short, or have one more behind, are no tree. -/
namespace Go.Proofs.Ytpalkdmngckcoaa
open Go
theorem wrap_u64_nn (a : Int) : 0 ≤ IntKind.u64.wrap a := by
  unfold IntKind.wrap
  simp [IntKind.signed, IntKind.bits]
  omega
theorem wrap_u64_id {a : Int} (h0 : 0 ≤ a) (h1 : a ≤ 9223372036854775807) : IntKind.u64.wrap a = a := by
  unfold IntKind.wrap
  simp [IntKind.signed, IntKind.bits]
  omega
theorem rootCut_ok {s : Sl} {t : Tre} {at' : Int} {c : UInt8} {V : View} (h : SlR V s t) : CallV Try.prog 4 ⟨[treV s, .int .i64 at', .int .u8 c.toNat]⟩ V fun r V' => r = .bool true ∧ V.Le V' := by
  refine f4_x ?_
  unfold f4_n
  refine fun _ => joinP_cut (fun q V' => (q.1 = false → mayT t = true) ∧ V.Le V') ((light15_ok h).mono ?_) ?_
  · rintro r V1 ⟨x, rfl, _, _, _, rfl⟩
    refine ⟨x, rfl, br_intro (fun _ => ⟨fun h => (by cases h), View.Le.refl _⟩) (fun _ => (mayTree_ok h).mono ?_)⟩
    rintro r V2 ⟨rfl, hV2⟩
    exact ⟨_, rfl, fun h => not_f h, hV2⟩
  rintro ⟨q, ⟨⟩⟩ V1 ⟨hq, hV1⟩
  simp only at hq
  dsimp only [unc]
  refine br_intro (fun _ => awakeJ hV1 fun V' hV => ⟨rfl, hV⟩) (fun hb => ?_)
  have hM := hq hb
  refine (bytes_ok (h.mono hV1)).mono ?_
  rintro r V2 ⟨x, e, rfl, hx, hV2⟩
  rw [hM] at hx
  obtain ⟨hx, rfl⟩ := hx
  obtain ⟨h12, hall, _⟩ := mayT_facts hM
  have hpos := encT_pos hM
  have hlen := encT_len hall
  have hxn := hx.n
  have hxc := hx.c
  refine ⟨x, _, rfl, br_intro (fun hb => ?_) (fun _ => ?_)⟩
  · exfalso
    have : ¬ ((x.n : Nat) : Int) = 0 := by omega
    rw [decide_eq_false this] at hb
    cases hb
  have hw : IntKind.u64.wrap (x.n : Int) = (x.n : Int) := wrap_u64_id (by omega) (by omega)
  rw [hw]
  have hu := wrap_u64_nn at'
  generalize IntKind.u64.wrap at' = u at *
  obtain ⟨m, hm⟩ : ∃ m : Nat, Int.tmod u (x.n : Int) = m := ⟨(Int.tmod u (x.n : Int)).toNat, by
    have := Int.tmod_nonneg (x.n : Int) hu
    omega⟩
  have hmlt : m < x.n := by
    have := Int.tmod_lt_of_pos u (show (0 : Int) < (x.n : Int) by omega)
    omega
  rw [hm]
  have e2 : (if x.c = 0 then x.a else Option.map (fun (x : Addr) => x.add 0) x.a) = x.a := by rw [map_add_zero]; simp
  rw [e2, Nat.sub_zero, Nat.sub_zero, Int.toNat_natCast]
  refine ⟨by omega, inI64 (by omega) (by omega), by omega, by omega, by omega, (parse_ok (hx.take (j := m) (by omega)) (by simp; omega)).mono ?_⟩
  rintro r V3 ⟨y, e, rfl, hy, hV3⟩
  rw [parseT_cut hM (by omega)] at hy
  obtain ⟨rfl, rfl⟩ := hy
  have hx3 := hx.mono hV3
  refine ⟨⟨none, 0, 0⟩, 5, rfl, fun _ => fun r hr => ?_⟩
  have hfr := View.see_none_of_ge hr
  have hbuf : Buf (V3.put r (.cells ⟨[]⟩ 5 (0, 0))) ⟨some ⟨r, 0, none⟩, 0, 0⟩ 5 1 [] := ⟨rfl, Nat.le_refl _, Nat.zero_le _, .inr ⟨r, [], rfl, View.see_put_same _ _ _, rfl, rfl⟩⟩
  have hle : V3.Le ((V3.put r (.cells ⟨[]⟩ 5 (0, 0))).minus ⟨some ⟨r, 0, none⟩, 0, 0⟩) := put_le_hide hfr (View.Le.refl _)
  generalize (V3.put r (.cells ⟨[]⟩ 5 (0, 0))) = W at *
  have hW : V3.Le W := hle.trans (View.minus_le _ _)
  refine apV_buf rfl hbuf (src := u8s (encT t)) (m := x.n) ⟨rfl, (hx3.mono hW).row8⟩ (by rw [u8s_len, hxn, Nat.mul_one]) (u8s_one _) (by show (0 + x.n) * 1 ≤ _; omega) (by show 0 + x.n ≤ _; omega) fun s4 V4 hb4 hn4 hle4 => ?_
  intro r5 hr5
  have hfr5 := View.see_none_of_ge hr5
  refine apV_buf rfl (hb4.put hfr5) (src := u8s [c]) (m := 1) ⟨rfl, rowAt_new (View.see_put_same _ _ _) rfl⟩ rfl (u8s_one _) (by show (s4.n + 1) * 1 ≤ _; rw [hn4]; show (0 + x.n + 1) * 1 ≤ _; omega) (by show s4.n + 1 ≤ _; rw [hn4]; show 0 + x.n + 1 ≤ _; omega) fun s6 V6 hb6 hn6 hle6 => ?_
  have hV36 : V3.Le V6 := ((hle.trans hle4).trans ((put_minus_le hfr5).trans hle6)).trans (View.minus_le _ _)
  have hs6 : SlR V6 s6 (encT t ++ [c]) := by
    rw [List.nil_append, ← u8s_append] at hb6
    exact hb6.slR (W := V6) (u8s_rep _) (View.Le.refl _)
  refine (parse_ok hs6 (by simp; omega)).mono ?_
  rintro r V7 ⟨z, e, rfl, hz, hV7⟩
  rw [parseT_more hM] at hz
  obtain ⟨rfl, rfl⟩ := hz
  have hV07 := (((hV1.trans hV2).trans hV3).trans hV36).trans hV7
  refine ⟨⟨none, 0, 0⟩, 5, rfl, fun _ => joinP_cut (fun q V' => q.1 = true ∧ V.Le V') (br_intro (fun _ => awakeJ hV07 fun V' hV => ⟨rfl, hV⟩) (fun h => absurd h (by decide))) ?_⟩
  rintro ⟨q, ⟨⟩⟩ V8 ⟨h1, hV⟩
  simp only at h1 hV
  subst h1
  exact ⟨rfl, hV⟩
end Go.Proofs.Ytpalkdmngckcoaa

/- May operations be taken in an order: the same check over bits of a number. -/
namespace Go.Proofs.Ytpalkdmngckcoaa
open Go
def rdyM (ops : Array Oper) (m : Nat) : List Nat := (List.range ops.size).filter fun i => !Nat.testBit m i && ((ops[i]?).map (fun o => o.after.all fun e => !Region.binds .any e || Nat.testBit m e.on)).getD false
def freeM (ops : Array Oper) (m i : Nat) : Bool := match ops[i]? with
  | none => false
  | some oi => (List.range ops.size).all fun j => j == i || Nat.testBit m j || match ops[j]? with
      | some oj => oj.after.any (fun e => Region.binds .any e && e.on == i) || oi.apart ops oj
      | none => true
def drFromM (P : Program) (ops : Array Oper) : DT → Bool → Nat → Bool → Bool
  | .done, true, m, _ => (rdyM ops m).isEmpty
  | .done, false, _, _ => false
  | .no, top, _, _ => !top
  | .fl i t, true, m, dead => match ops[i]? with
    | some o => floats P o.op && freeM ops m i && (rdyM ops m).contains i && !(isLoad P o.op && dead) && drFromM P ops t true (m ||| 2 ^ i) dead
    | none => false
  | .fl _ _, false, _, _ => false
  | .alt i e _ t r, top, m, dead => match ops[i]? with
    | some o => !floats P o.op && e == early P ops i && (!top || rdyM ops m == i :: r.heads) && !(early P ops i && dead) && drFromM P ops t true (m ||| 2 ^ i) (dead || !early P ops i) &&
        (r.heads.isEmpty || r.depth == t.depth + 1) && drFromM P ops r false m dead
    | none => false
/-- The listed ones are the bits of m. -/
structure BitsR (ops : Array Oper) (listed : Array Bool) (m : Nat) : Prop where
  size : listed.size = ops.size
  bit : ∀ j d, j < ops.size → listed.getD j d = Nat.testBit m j
  out : ∀ j, ops.size ≤ j → Nat.testBit m j = false
theorem BitsR.get {ops : Array Oper} {listed : Array Bool} {m : Nat} (h : BitsR ops listed m) (j : Nat) : listed.getD j false = Nat.testBit m j := by
  by_cases hj : j < ops.size
  · exact h.bit j false hj
  · rw [h.out j (by omega)]
    unfold Array.getD
    rw [dif_neg (by rw [h.size]; exact hj)]
theorem BitsR.set {ops : Array Oper} {listed : Array Bool} {m : Nat} (h : BitsR ops listed m) {i : Nat} (hi : i < ops.size) : BitsR ops (listed.setIfInBounds i true) (m ||| 2 ^ i) := by
  refine ⟨by rw [Array.size_setIfInBounds]; exact h.size, fun j d hj => ?_, fun j hj => ?_⟩
  · have hb := h.bit j d hj
    rw [Nat.testBit_or, Nat.testBit_two_pow]
    rw [Array.getD_eq_getD_getElem?] at hb ⊢
    rw [Array.getElem?_setIfInBounds]
    by_cases e : i = j
    · subst e
      rw [if_pos rfl, if_pos (by rw [h.size]; exact hi)]
      simp
    · rw [if_neg e, hb, decide_eq_false e, Bool.or_false]
  · rw [Nat.testBit_or, Nat.testBit_two_pow, h.out j hj, decide_eq_false (by omega)]; rfl
theorem rdy_eq {ops : Array Oper} {listed : Array Bool} {m : Nat} (h : BitsR ops listed m) : Region.ready .any ops listed = rdyM ops m := by
  unfold Region.ready rdyM
  apply List.filter_congr
  intro i hi
  rw [h.bit i true (List.mem_range.1 hi)]
  have : ∀ (o : Oper), (o.after.all fun e => !Region.binds .any e || listed.getD e.on false) = (o.after.all fun e => !Region.binds .any e || Nat.testBit m e.on) := fun o => by
    congr 1
    funext e
    rw [h.get]
  simp only [this]
theorem free_eq {ops : Array Oper} {listed : Array Bool} {m : Nat} (h : BitsR ops listed m) (i : Nat) : Region.free .any ops listed i = freeM ops m i := by
  unfold Region.free freeM
  cases ho : ops[i]? with
  | none => rfl
  | some oi =>
    simp only
    rw [Bool.eq_iff_iff, List.all_eq_true, List.all_eq_true]
    constructor
    · intro hall j hj
      have := hall j hj
      rw [h.bit j true (List.mem_range.1 hj)] at this
      exact this
    · intro hall j hj
      have := hall j hj
      rw [h.bit j true (List.mem_range.1 hj)]
      exact this
theorem drFrom_eq {P : Program} {ops : Array Oper} : ∀ (D : DT) (top : Bool) (listed : Array Bool) (m : Nat) (dead : Bool), BitsR ops listed m → drFrom P ops D top listed dead = drFromM P ops D top m dead
  | .done, true, listed, m, dead, h => by unfold drFrom drFromM; rw [rdy_eq h]
  | .done, false, _, _, _, _ => by unfold drFrom drFromM; rfl
  | .no, _, _, _, _, _ => by unfold drFrom drFromM; rfl
  | .fl i t, true, listed, m, dead, h => by
    unfold drFrom drFromM
    rw [rdy_eq h, free_eq h]
    cases ho : ops[i]? with
    | none => rfl
    | some o =>
      have hi : i < ops.size := (Array.getElem?_eq_some_iff.1 ho).1
      simp only
      rw [drFrom_eq t true _ _ dead (h.set hi)]
  | .fl _ _, false, _, _, _, _ => by unfold drFrom drFromM; rfl
  | .alt i e g t r, top, listed, m, dead, h => by
    unfold drFrom drFromM
    rw [rdy_eq h]
    cases ho : ops[i]? with
    | none => rfl
    | some o =>
      have hi : i < ops.size := (Array.getElem?_eq_some_iff.1 ho).1
      simp only
      rw [drFrom_eq t true _ _ _ (h.set hi), drFrom_eq r false _ _ dead h]
theorem drOk_fast {P : Program} {ops : Array Oper} {sched : DT} (h : (Region.noSelect ops && drFromM P ops sched true 0 false && sched.depth == ops.size) = true) : drOk P ops sched := by
  have h0 : BitsR ops (Array.replicate ops.size false) 0 := by
    refine ⟨Array.size_replicate, fun j d hj => ?_, fun j _ => Nat.zero_testBit j⟩
    rw [Array.getD_eq_getD_getElem?, Array.getElem?_replicate, if_pos hj, Nat.zero_testBit]; rfl
  unfold drOk
  rw [drFrom_eq sched true _ _ false h0, h]
  trivial
/-- The numbers that come up, written out. -/
inductive MT where
  | nil
  | fl (m : Nat) (t : MT)
  | alt (m : Nat) (d : Bool) (t r : MT)
def drFromL (P : Program) (ops : Array Oper) : DT → MT → Bool → Nat → Bool → Bool
  | .done, _, true, m, _ => (rdyM ops m).isEmpty
  | .no, _, top, _, _ => !top
  | .fl i t, .fl m' t', true, m, dead => Nat.beq (Nat.lor m (2 ^ i)) m' && match ops[i]? with
    | some o => floats P o.op && freeM ops m i && (rdyM ops m).contains i && !(isLoad P o.op && dead) && drFromL P ops t t' true m' dead
    | none => false
  | .alt i e _ t r, .alt m' d' t' r', top, m, dead => Nat.beq (Nat.lor m (2 ^ i)) m' && ((dead || !early P ops i) == d') && match ops[i]? with
    | some o => !floats P o.op && e == early P ops i && (!top || rdyM ops m == i :: r.heads) && !(early P ops i && dead) && drFromL P ops t t' true m' d' &&
        (r.heads.isEmpty || r.depth == t.depth + 1) && drFromL P ops r r' false m dead
    | none => false
  | _, _, _, _, _ => false
theorem drL_sound {P : Program} {ops : Array Oper} : ∀ (D : DT) (M : MT) (top : Bool) (m : Nat) (dead : Bool), drFromL P ops D M top m dead = true → drFromM P ops D top m dead = true
  | .done, M, true, m, dead, h => by cases M <;> exact h
  | .done, M, false, m, dead, h => by cases M <;> cases h
  | .no, M, top, m, dead, h => by cases M <;> exact h
  | .fl i t, .nil, top, m, dead, h => by cases top <;> cases h
  | .fl i t, .alt _ _ _ _, top, m, dead, h => by cases top <;> cases h
  | .fl i t, .fl m' t', false, m, dead, h => by cases h
  | .fl i t, .fl m' t', true, m, dead, h => by
    unfold drFromL at h
    rw [Bool.and_eq_true] at h
    obtain ⟨h1, h2⟩ := h
    have h1 : m ||| 2 ^ i = m' := Nat.eq_of_beq_eq_true h1
    unfold drFromM
    cases ho : ops[i]? with
    | none => rw [ho] at h2; cases h2
    | some o =>
      rw [ho] at h2
      simp only at h2 ⊢
      rw [Bool.and_eq_true] at h2 ⊢
      rw [h1]
      exact ⟨h2.1, drL_sound t t' true m' dead h2.2⟩
  | .alt i e g t r, .nil, top, m, dead, h => by cases top <;> cases h
  | .alt i e g t r, .fl _ _, top, m, dead, h => by cases top <;> cases h
  | .alt i e g t r, .alt m' d' t' r', top, m, dead, h => by
    unfold drFromL at h
    rw [Bool.and_eq_true, Bool.and_eq_true] at h
    obtain ⟨⟨h1, hd⟩, h2⟩ := h
    have h1 : m ||| 2 ^ i = m' := Nat.eq_of_beq_eq_true h1
    have hd : (dead || !early P ops i) = d' := eq_of_beq hd
    unfold drFromM
    cases ho : ops[i]? with
    | none => rw [ho] at h2; cases h2
    | some o =>
      rw [ho] at h2
      simp only at h2 ⊢
      rw [Bool.and_eq_true, Bool.and_eq_true, Bool.and_eq_true] at h2 ⊢
      rw [h1, hd]
      exact ⟨⟨⟨h2.1.1.1, drL_sound t t' true m' d' h2.1.1.2⟩, h2.1.2⟩, drL_sound r r' false m dead h2.2⟩
theorem drOk_faster {P : Program} {ops : Array Oper} {sched : DT} (M : MT) (h1 : Region.noSelect ops = true) (h2 : drFromL P ops sched M true 0 false = true) (h3 : (sched.depth == ops.size) = true) : drOk P ops sched :=
  drOk_fast (by rw [h1, drL_sound sched M true 0 false h2, h3]; rfl)
end Go.Proofs.Ytpalkdmngckcoaa

/- RootBack: what is written is read as it was. -/
namespace Go.Proofs.Ytpalkdmngckcoaa
open Go
theorem refInts_ok {s t : Sl} {l m : List Int} {V : View} (h : SlR V s l) (k : SlR V t m) : CallV Try.prog 68 ⟨[.slice s.a s.n s.c, .slice t.a t.n t.c]⟩ V fun r V' => r = .bool (decide (l = m)) ∧ V' = V := by
  refine f68_x ?_
  unfold f68_n
  have hn := h.n; have hlim := h.lim; have kn := k.n
  refine br_intro (fun hne => ⟨?_, rfl⟩) (fun heq => ?_)
  · have hne : ¬ (s.n : Int) = t.n := by simpa using hne
    rw [decide_eq_false]
    intro e; subst e; omega
  have heq : (s.n : Int) = t.n := by simpa using heq
  refine loop1 (k := .int .i64) (fun (x : Int) V' => V' = V ∧ 0 ≤ x ∧ x ≤ s.n ∧ l.take x.toNat = m.take x.toNat) (fun (x : Int) _ => s.n - x.toNat) ⟨rfl, by omega, by omega, rfl⟩ ?_
  rintro (x : Int) V' ⟨rfl, h0, h1, h2⟩
  refine br_intro (fun hlt => ?_) (fun hge => ?_)
  · have hlt : x < s.n := by simpa using hlt
    obtain ⟨ad, hx, ha, hc, _⟩ := h.int h0 hlt
    obtain ⟨ad', hx', ha', hc', _⟩ := k.int h0 (by omega)
    refine ⟨trivial, V', View.Le.refl _, h0, hlt, ad, ha, _, hc, h0, by omega, ad', ha', _, hc', br_intro (fun hb => ⟨?_, rfl⟩) (fun hb => ⟨inI64 (by omega) (by omega), ⟨rfl, by omega, by omega, ?_⟩, by omega⟩)⟩
    · have hb : ¬ l[x.toNat] = m[x.toNat] := by simpa using hb
      rw [decide_eq_false]
      intro e; subst e; exact hb rfl
    · have hb : l[x.toNat] = m[x.toNat] := by simpa using hb
      rw [show (x + 1).toNat = x.toNat + 1 by omega, List.take_add_one, List.take_add_one, h2, List.getElem?_eq_getElem hx, List.getElem?_eq_getElem hx', hb]
  · have hge : ¬ x < s.n := by simpa using hge
    rw [List.take_of_length_le (by omega), List.take_of_length_le (by omega)] at h2
    exact ⟨by rw [h2]; simp, rfl⟩
theorem refEnts_ok {s t : Sl} {l m : List Ent} {V : View} (h : SlR V s l) (k : SlR V t m) : CallV Try.prog 69 ⟨[.slice s.a s.n s.c, .slice t.a t.n t.c]⟩ V fun r V' => r = .bool (decide (l = m)) ∧ V' = V := by
  refine f69_x ?_
  unfold f69_n
  have hn := h.n; have hlim := h.lim; have kn := k.n
  refine br_intro (fun hne => ⟨?_, rfl⟩) (fun heq => ?_)
  · have hne : ¬ (s.n : Int) = t.n := by simpa using hne
    rw [decide_eq_false]
    intro e; subst e; omega
  have heq : (s.n : Int) = t.n := by simpa using heq
  refine loop1 (k := .int .i64) (fun (x : Int) V' => V' = V ∧ 0 ≤ x ∧ x ≤ s.n ∧ l.take x.toNat = m.take x.toNat) (fun (x : Int) _ => s.n - x.toNat) ⟨rfl, by omega, by omega, rfl⟩ ?_
  rintro (x : Int) V' ⟨rfl, h0, h1, h2⟩
  refine br_intro (fun hlt => ?_) (fun hge => ?_)
  · have hlt : x < s.n := by simpa using hlt
    obtain ⟨ad, hx, ha, hc, _⟩ := h.ent h0 hlt
    obtain ⟨ad', hx', ha', hc', _⟩ := k.ent h0 (by omega)
    refine ⟨trivial, V', View.Le.refl _, h0, hlt, ad, ha, _, _, hc, h0, by omega, ad', ha', _, _, hc', trivial, ?_⟩
    rw [ent_eq]
    refine br_intro (fun hb => ⟨?_, rfl⟩) (fun hb => ⟨inI64 (by omega) (by omega), ⟨rfl, by omega, by omega, ?_⟩, by omega⟩)
    · have hb : ¬ l[x.toNat] = m[x.toNat] := by simpa using hb
      rw [decide_eq_false]
      intro e; subst e; exact hb rfl
    · have hb : l[x.toNat] = m[x.toNat] := by simpa using hb
      rw [show (x + 1).toNat = x.toNat + 1 by omega, List.take_add_one, List.take_add_one, h2, List.getElem?_eq_getElem hx, List.getElem?_eq_getElem hx', hb]
  · have hge : ¬ x < s.n := by simpa using hge
    rw [List.take_of_length_le (by omega), List.take_of_length_le (by omega)] at h2
    exact ⟨by rw [h2]; simp, rfl⟩
theorem refSameN_ok {a b : Nod} {s e s' e' : Sl} {V : View} (h : NodR V s e a) (k : NodR V s' e' b) : CallV Try.prog 46 ⟨[nodV a s e, nodV b s' e']⟩ V fun r V' => r = .bool (decide (a = b)) ∧ V' = V := by
  refine f46_x ?_
  unfold f46_n
  rw [nod_eq]
  refine fun _ _ => joinP_cut (fun q V' => q.1 = (decide (a.kind = b.kind) && decide (a.links = b.links) && decide (a.size = b.size) && (decide (a.seqs = b.seqs) && decide (a.ents = b.ents))) ∧ V' = V) (br_intro (fun hb => (refInts_ok h.seqs k.seqs).mono ?_) (fun hb => ⟨?_, rfl⟩)) ?_
  · have hb : (decide (a.kind = b.kind) && decide (a.links = b.links) && decide (a.size = b.size)) = true := by
      cases h1 : decide (a.kind = b.kind) <;> cases h2 : decide (a.links = b.links) <;> cases h3 : decide (a.size = b.size) <;> simp_all
    rw [hb]
    rintro r V1 ⟨rfl, rfl⟩
    refine ⟨_, rfl, br_intro (fun h1 => (refEnts_ok h.ents k.ents).mono ?_) (fun h1 => ⟨by rw [h1]; rfl, rfl⟩)⟩
    rintro r V2 ⟨rfl, rfl⟩
    exact ⟨_, rfl, by rw [h1]; rfl, rfl⟩
  · have hb : (decide (a.kind = b.kind) && decide (a.links = b.links) && decide (a.size = b.size)) = false := by
      cases h1 : decide (a.kind = b.kind) <;> cases h2 : decide (a.links = b.links) <;> cases h3 : decide (a.size = b.size) <;> simp_all
    rw [hb]; rfl
  · rintro ⟨q, ⟨⟩⟩ V1 ⟨h1, hV⟩
    simp only at h1 hV
    subst h1 hV
    exact ⟨rfl, rfl⟩
theorem refSameT_ok {s t : Sl} {l m : Tre} {V : View} (h : SlR V s l) (k : SlR V t m) : CallV Try.prog 16 ⟨[treV s, treV t]⟩ V fun r V' => r = .bool (decide (l = m)) ∧ V' = V := by
  refine f16_x ?_
  unfold f16_n
  have hn := h.n; have hlim := h.lim; have kn := k.n
  refine fun _ _ => br_intro (fun hne => ⟨?_, rfl⟩) (fun heq => ?_)
  · have hne : ¬ (s.n : Int) = t.n := by simpa using hne
    rw [decide_eq_false]
    intro e; subst e; omega
  have heq : (s.n : Int) = t.n := by simpa using heq
  refine loop1 (k := .int .i64) (fun (x : Int) V' => V' = V ∧ 0 ≤ x ∧ x ≤ s.n ∧ l.take x.toNat = m.take x.toNat) (fun (x : Int) _ => s.n - x.toNat) ⟨rfl, by omega, by omega, rfl⟩ ?_
  rintro (x : Int) V' ⟨rfl, h0, h1, h2⟩
  refine br_intro (fun hlt => ?_) (fun hge => ?_)
  · have hlt : x < s.n := by simpa using hlt
    obtain ⟨ad, sq, en, hx, ha, hc, hN⟩ := h.nod h0 hlt
    obtain ⟨ad', sq', en', hx', ha', hc', hN'⟩ := k.nod h0 (by omega)
    refine ⟨trivial, V', View.Le.refl _, h0, hlt, ad, ha, _, _, _, sq, en, hc, h0, by omega, ad', ha', _, _, _, sq', en', hc', (refSameN_ok hN hN').mono ?_⟩
    rintro r V1 ⟨rfl, rfl⟩
    refine ⟨_, rfl, br_intro (fun hb => ⟨?_, rfl⟩) (fun hb => ⟨inI64 (by omega) (by omega), ⟨rfl, by omega, by omega, ?_⟩, by omega⟩)⟩
    · have hb : ¬ l[x.toNat] = m[x.toNat] := of_decide_eq_false (not_t hb)
      rw [decide_eq_false]
      intro e; subst e; exact hb rfl
    · have hb : l[x.toNat] = m[x.toNat] := of_decide_eq_true (not_f hb)
      rw [show (x + 1).toNat = x.toNat + 1 by omega, List.take_add_one, List.take_add_one, h2, List.getElem?_eq_getElem hx, List.getElem?_eq_getElem hx', hb]
  · have hge : ¬ x < s.n := by simpa using hge
    rw [List.take_of_length_le (by omega), List.take_of_length_le (by omega)] at h2
    exact ⟨by rw [h2]; simp, rfl⟩
/-! ### sheets -/
theorem numL_small {n : Nat} (h : n < 128) : (numL n).length = 1 := by
  have : n / 128 = 0 := Nat.div_eq_of_lt h
  unfold numL
  rw [this]
  rfl
theorem numI_small {n : Int} (h0 : 0 ≤ n) (h : n < 128) : (numI n).length = 1 := by
  unfold numI
  exact numL_small (by unfold clampN; omega)
theorem numI_six (n : Int) : (numI n).length ≤ 6 := by
  unfold numI numL
  have := hi_len5 (clampN_le n)
  simp only [List.length_append, List.length_cons, List.length_nil]
  omega
theorem numsL_six : ∀ l : List Int, (numsL l).length ≤ 6 * l.length
  | [] => by simp [numsL]
  | n :: l => by
    have h1 := numsL_six l
    have h2 := numI_six n
    have e : numsL (n :: l) = numI n ++ numsL l := by simp [numsL]
    rw [e, List.length_append, List.length_cons]; omega
theorem encE_ten {x : Ent} (h8 : x.name.size ≤ 8) (h0 : 0 ≤ x.node) (h1 : x.node < 12) : (encE x).length ≤ 10 := by
  unfold encE textL
  have a := numI_small (n := ((bl x.name).length : Nat)) (by omega) (by rw [bl_len]; omega)
  have b := numI_small h0 (show x.node < 128 by omega)
  have c := bl_len x.name
  simp only [List.length_append]
  omega
theorem encEs_ten : ∀ {l : List Ent}, (∀ x ∈ l, x.name.size ≤ 8 ∧ 0 ≤ x.node ∧ x.node < 12) → (encEs l).length ≤ 10 * l.length
  | [], _ => by simp [encEs]
  | x :: l, h => by
    have h1 := encEs_ten (l := l) fun y hy => h y (by simp [hy])
    have hx := h x (by simp)
    have h2 := encE_ten hx.1 hx.2.1 hx.2.2
    have e : encEs (x :: l) = encE x ++ encEs l := by simp [encEs]
    rw [e, List.length_append, List.length_cons]; omega
theorem encN_short {n : Nod} (h : mayN n = true) : (encN n).length ≤ 102 := by
  have h1 := mayN_seqs h
  have h2 := mayL_len (mayN_ents h)
  have h3 := encEs_ten (l := n.ents) fun x hx => by
    have := mayL_node (mayN_ents h) hx
    have := mayB_size this.2.2
    omega
  have h4 := numsL_six n.seqs
  by_cases k1 : n.kind = 1
  · rw [encN_1 k1]
    have a : (numI 1).length = 1 := rfl
    have b := numI_six n.links
    have c := numI_six n.size
    simp only [List.length_append]; omega
  · by_cases k2 : n.kind = 2
    · rw [encN_2 k2]
      have a : (numI 2).length = 1 := rfl
      have b := numI_small (n := ((n.ents.length : Nat) : Int)) (by omega) (by omega)
      simp only [List.length_append]; omega
    · rw [encN_0 k1 k2]
      have := numI_six n.kind
      omega
theorem encT_short : ∀ {t : Tre}, (∀ n ∈ t, mayN n = true) → (encT t).length ≤ 102 * t.length
  | [], _ => by simp [encT]
  | n :: t, h => by
    have h1 := encT_short (t := t) fun y hy => h y (by simp [hy])
    have h2 := encN_short (h n (by simp))
    have e : encT (n :: t) = encN n ++ encT t := by simp [encT]
    rw [e, List.length_append, List.length_cons]; omega
theorem laidEnd {V V0 : View} {x : Sl} {l : List UInt8} {r : Nat} {C : Sl → View → Prop} (hb : Buf V x 5 1 (u8s l)) (hle : V0.Le (V.minus x)) (hr : rowAt V (some ⟨r, 0, none⟩) (1 * 1) (u8s [90])) (hl : l.length ≤ 4000)
    (hC : ∀ s V', s.n = l.length + 1 → V0.Le V' → C s V') : apV V 5 1 1 [.int .u8 0] x (.slice (some ⟨r, 0, none⟩) 1 1) C := by
  have hxn : x.n = l.length := by have := hb.len; rw [u8s_len, Nat.mul_one] at this; exact this.symm
  refine apV_buf rfl hb (src := u8s [90]) (m := 1) ⟨rfl, hr⟩ rfl (u8s_one _) (by show (x.n + 1) * 1 ≤ _; omega) (by show x.n + 1 ≤ _; omega) fun s V' _ hn hle' => ?_
  exact hC s V' (by rw [hn, hxn]) ((hle.trans hle').trans (View.minus_le _ _))
theorem row90 {V : View} {r : Nat} (h : V.see r = some (.cells ⟨putL [.int .u8 0] 0 [.int .u8 90]⟩ 5 (0, 0))) : rowAt V (some ⟨r, 0, none⟩) (1 * 1) (u8s [90]) := rowAt_new h rfl
theorem laid_ok {x : Sl} {l : List UInt8} {p q : Int} {V : View} (h : SlR V x l) (hl : l.length ≤ 2000) : CallV Try.prog 47 ⟨[.agg ⟨[.int .i64 p, .int .i64 q, .slice x.a x.n x.c]⟩]⟩ V fun r V' => ∃ y : Sl, r = .slice y.a y.n y.c ∧ y.n = ([] ++ numI p ++ numI q ++ textL l).length + 1 ∧ V.Le V' := by
  have a1 := numI_len p
  have a2 := numI_len q
  have a3 := numI_len (l.length : Nat)
  have a4 : (textL l).length ≤ 2007 := by unfold textL; rw [List.length_append]; omega
  have hlen : ([] ++ numI p ++ numI q ++ textL l).length ≤ 4000 := by simp only [List.length_append, List.length_nil]; omega
  have hl1 : (([] : List UInt8) ++ numI p).length ≤ 100 := by simp only [List.length_append, List.length_nil]; omega
  have hl2 : (([] : List UInt8) ++ numI p ++ numI q).length ≤ 100 := by simp only [List.length_append, List.length_nil]; omega
  refine f47_x ?_
  unfold f47_n
  refine fun _ => joinP_cut (fun s V' => s.1.n = ([] ++ numI p ++ numI q ++ textL l).length + 1 ∧ V.Le V') ⟨trivial, V, View.Le.refl _, ?_, ?_⟩ ?_
  · refine (number8_ok (SlR.nil (α := UInt8) V none 0) (by decide)).mono ?_
    rintro r V1 ⟨y1, rfl, h1⟩
    refine ⟨y1, rfl, h1.vle, ?_, ?_⟩
    · refine (number8_ok h1.slR (by omega)).mono ?_
      rintro r V2 ⟨y2, rfl, h2⟩
      refine ⟨y2, rfl, h1.vle.trans h2.vle, ?_, ?_⟩
      · refine (text8_ok h2.slR (h.mono (h1.vle.trans h2.vle)) (by omega)).mono ?_
        rintro r V3 ⟨y3, rfl, h3⟩
        refine ⟨y3, rfl, (h1.vle.trans h2.vle).trans h3.vle, fun r4 hr4 => ?_⟩
        have hf4 := View.see_none_of_ge hr4
        refine ⟨((h1.vle.trans h2.vle).trans h3.vle).trans (View.put_le hf4), laidEnd (V0 := V) (h3.buf.put hf4) (((h1.vle.trans h2.vle).trans h3.le).trans (put_minus_le hf4)) (row90 (View.see_put_same _ _ _)) hlen fun s V' hs hV => ⟨hs, hV⟩⟩
      · intro r4 hr4
        have hf4 := View.see_none_of_ge hr4
        have hp4 := View.put_le (o := .cells ⟨putL [.int .u8 0] 0 [.int .u8 90]⟩ 5 (0, 0)) hf4
        have hle4 := (h1.vle.trans h2.vle).trans hp4
        refine ⟨hle4, (text8_ok (h2.slR.mono hp4) (h.mono hle4) (by omega)).mono ?_⟩
        rintro r V3 ⟨y3, rfl, h3⟩
        exact ⟨y3, rfl, hle4.trans h3.vle, laidEnd (V0 := V) h3.buf (hle4.trans h3.le) (row90 (h3.vle.see _ _ (View.see_put_same _ _ _))) hlen fun s V' hs hV => ⟨hs, hV⟩⟩
    · intro r4 hr4
      have hf4 := View.see_none_of_ge hr4
      have hp4 := View.put_le (o := .cells ⟨putL [.int .u8 0] 0 [.int .u8 90]⟩ 5 (0, 0)) hf4
      have hle4 := h1.vle.trans hp4
      refine ⟨hle4, (number8_ok (h1.slR.mono hp4) (by omega)).mono ?_⟩
      rintro r V2 ⟨y2, rfl, h2⟩
      refine ⟨y2, rfl, hle4.trans h2.vle, (text8_ok h2.slR (h.mono (hle4.trans h2.vle)) (by omega)).mono ?_⟩
      rintro r V3 ⟨y3, rfl, h3⟩
      exact ⟨y3, rfl, (hle4.trans h2.vle).trans h3.vle, laidEnd (V0 := V) h3.buf ((hle4.trans h2.vle).trans h3.le) (row90 ((h2.vle.trans h3.vle).see _ _ (View.see_put_same _ _ _))) hlen fun s V' hs hV => ⟨hs, hV⟩⟩
  · intro r4 hr4
    have hf4 := View.see_none_of_ge hr4
    have hp4 := View.put_le (o := .cells ⟨putL [.int .u8 0] 0 [.int .u8 90]⟩ 5 (0, 0)) hf4
    refine ⟨hp4, (number8_ok (SlR.nil (α := UInt8) _ none 0) (by decide)).mono ?_⟩
    rintro r V1 ⟨y1, rfl, h1⟩
    refine ⟨y1, rfl, hp4.trans h1.vle, (number8_ok h1.slR (by omega)).mono ?_⟩
    rintro r V2 ⟨y2, rfl, h2⟩
    refine ⟨y2, rfl, (hp4.trans h1.vle).trans h2.vle, (text8_ok h2.slR (h.mono ((hp4.trans h1.vle).trans h2.vle)) (by omega)).mono ?_⟩
    rintro r V3 ⟨y3, rfl, h3⟩
    exact ⟨y3, rfl, ((hp4.trans h1.vle).trans h2.vle).trans h3.vle, laidEnd (V0 := V) h3.buf (((hp4.trans h1.vle).trans h2.vle).trans h3.le) (row90 (((h1.vle.trans h2.vle).trans h3.vle).see _ _ (View.see_put_same _ _ _))) hlen fun s V' hs hV => ⟨hs, hV⟩⟩
  · rintro ⟨y, ⟨⟩⟩ V1 ⟨h1, h2⟩
    exact ⟨y, rfl, h1, h2⟩
theorem sheetMay_ok {x : Sl} {l : List UInt8} {q : Int} {V : View} (h : SlR V x l) (hl : l.length ≤ 1300) (h1 : 1 ≤ q) (h2 : q ≤ 1099511627776) : CallV Try.prog 17 ⟨[.agg ⟨[.int .i64 0, .int .i64 q, .slice x.a x.n x.c]⟩]⟩ V fun r V' => r = .bool true ∧ V.Le V' := by
  refine f17_x ?_
  unfold f17_n
  have hn := h.n
  refine fun _ => joinP_cut (fun g V' => g.1 = true ∧ V.Le V') (br_intro (fun _ => (laid_ok h (by omega)).mono ?_) (fun hb => ?_)) ?_
  · rintro r V1 ⟨y, rfl, hy, hV1⟩
    refine ⟨y, rfl, decide_eq_true ?_, hV1⟩
    have a1 := numI_len 0
    have a2 := numI_len q
    have a3 := numI_len (l.length : Nat)
    have a4 : (textL l).length ≤ 1307 := by unfold textL; rw [List.length_append]; omega
    simp only [List.length_append, List.length_nil] at hy
    omega
  · exfalso
    rw [decide_eq_true (show (0 : Int) ≤ 0 by decide), decide_eq_true (show (0 : Int) ≤ 60 by decide), decide_eq_true h1, decide_eq_true h2, decide_eq_true (show ((x.n : Nat) : Int) ≤ 2000 by omega)] at hb
    cases hb
  · rintro ⟨g, ⟨⟩⟩ V1 ⟨h1, hV⟩
    simp only at h1 hV
    subst h1
    exact ⟨rfl, hV⟩
theorem rootBack_ok {s s' : Sl} {t u : Tre} {q : Int} {V : View} (h : SlR V s t) (k : SlR V s' u) : CallV Try.prog 6 ⟨[treV s, treV s', .int .i64 q]⟩ V fun r V' => r = .bool true ∧ V.Le V' := by
  refine f6_x ?_
  unfold f6_n
  refine fun _ _ => joinP_cut (fun q V' => (q.1 = false → mayT t = true ∧ mayT u = true) ∧ V.Le V') ⟨trivial, V, View.Le.refl _, (light15_ok h).mono ?_⟩ ?_
  · rintro r V1 ⟨x, rfl, x0, x1, _, rfl⟩
    refine ⟨x, rfl, View.Le.refl _, V1, View.Le.refl _, View.Le.refl _, (light15_ok k).mono ?_⟩
    rintro r V2 ⟨y, rfl, y0, y1, _, rfl⟩
    refine ⟨y, rfl, View.Le.refl _, V2, View.Le.refl _, View.Le.refl _, inI64 (by omega) (by omega), br_intro (fun _ => ⟨V2, View.Le.refl _, View.Le.refl _, fun h => (by cases h), View.Le.refl _⟩) (fun _ => (mayTree_ok h).mono ?_)⟩
    rintro r V3 ⟨rfl, hV3⟩
    refine ⟨_, rfl, hV3, V3, hV3, View.Le.refl _, br_intro (fun _ => ⟨fun h => (by cases h), hV3⟩) (fun hb => (mayTree_ok (k.mono hV3)).mono ?_)⟩
    rintro r V4 ⟨rfl, hV4⟩
    exact ⟨_, rfl, fun h => ⟨not_f hb, not_f h⟩, hV3.trans hV4⟩
  rintro ⟨g, ⟨⟩⟩ V1 ⟨hg, hV1⟩
  simp only at hg
  dsimp only [unc]
  refine br_intro (fun _ => awakeJ hV1 fun V' hV => ⟨rfl, hV⟩) (fun hb => ?_)
  obtain ⟨hM, hM'⟩ := hg hb
  refine (bytes_ok (h.mono hV1)).mono ?_
  rintro r V2 ⟨x, e, rfl, hx, hV2⟩
  rw [hM] at hx
  obtain ⟨hx, rfl⟩ := hx
  refine ⟨x, _, rfl, (bytes_ok (k.mono (hV1.trans hV2))).mono ?_⟩
  rintro r V3 ⟨y, e, rfl, hy, hV3⟩
  rw [hM'] at hy
  obtain ⟨hy, rfl⟩ := hy
  obtain ⟨h12, hall, _⟩ := mayT_facts hM
  have hlen := encT_short hall
  refine ⟨y, _, rfl, (parse_ok (hx.mono hV3) (by omega)).mono ?_⟩
  rintro r V4 ⟨z, e, rfl, hz, hV4⟩
  rw [parseT_back hM] at hz
  obtain ⟨hz, rfl⟩ := hz
  have hV04 := ((hV1.trans hV2).trans hV3).trans hV4
  refine ⟨z, _, rfl, fun _ => joinP_cut (fun g V' => g.1 = true ∧ V.Le V') ⟨by first | exact trivial | exact drOk_fast (by kernel_rfl), V4, View.Le.refl _, br_intro (fun _ => (refSameT_ok (h.mono hV04) hz).mono ?_) (fun h => absurd h (by decide))⟩ ?_⟩
  · rintro r V5 ⟨rfl, rfl⟩
    refine ⟨_, rfl, View.Le.refl _, V5, View.Le.refl _, View.Le.refl _, br_intro (fun _ => ⟨ba (encT t), u8_row (hx.mono (hV3.trans hV4)), ba (encT u), u8_row (hy.mono hV4), (refSameT_ok (h.mono hV04) (k.mono hV04)).mono ?_⟩) (fun h => absurd h (by simp))⟩
    rintro r V6 ⟨rfl, rfl⟩
    have hiff : decide (ba (encT t) = ba (encT u)) = decide (t = u) := decide_eq_decide.2 ⟨fun e => encT_inj hM hM' (by have := congrArg bl e; simpa using this), fun e => by rw [e]⟩
    have hw := wrap_u64_nn q
    have m0 := Int.tmod_nonneg (1099511627776 : Int) hw
    have m1 := Int.tmod_lt_of_pos (IntKind.u64.wrap q) (show (0 : Int) < 1099511627776 by decide)
    refine ⟨_, rfl, View.Le.refl _, br_intro (fun _ => ⟨by decide, inI64 (by omega) (by omega), inI64 (by omega) (by omega), (sheetMay_ok (hx.mono (hV3.trans hV4)) (by omega) (by omega) (by omega)).mono ?_⟩) (fun h => ?_)⟩
    · rintro r V7 ⟨rfl, hV7⟩
      exact ⟨_, rfl, br_intro (fun _ => awakeJ (hV04.trans hV7) fun V' hV => ⟨rfl, hV⟩) (fun h => absurd h (by decide))⟩
    · rw [hiff] at h
      simp at h
  · rintro ⟨g, ⟨⟩⟩ V5 ⟨h1, hV⟩
    simp only at h1 hV
    subst h1
    exact ⟨rfl, hV⟩
end Go.Proofs.Ytpalkdmngckcoaa

/- RootNames: refs of a tree name each page once, each Seq once; as many as its files have. -/
namespace Go.Proofs.Ytpalkdmngckcoaa
open Go
def nzB (s : Int) : Bool := decide (s ≠ 0)
theorem refsK_seqs (i : Int) (n : Nod) : ∀ k, k ≤ n.seqs.length → (refsK i n k).map Rf.seq = (n.seqs.take k).filter nzB
  | 0, _ => by simp [refsK]
  | k + 1, h => by
    have ih := refsK_seqs i n k (by omega)
    have hk : k < n.seqs.length := by omega
    rw [refsK_succ, List.map_append, ih, List.take_add_one, List.getElem?_eq_getElem hk, List.filter_append, getD_at0 hk]
    congr 1
    by_cases h0 : n.seqs[k] = 0
    · simp [h0, nzB]
    · simp [h0, nzB]
theorem refsN_seqs (i : Nat) (hi : i < 12) (n : Nod) (h : mayN n = true) : (refsN i n).map Rf.seq = n.seqs.filter nzB := by
  unfold refsN
  by_cases hk : n.kind = 1
  · rw [if_pos ⟨hk, h, by unfold within; simp; omega⟩, refsK_seqs _ _ _ (Nat.le_refl _), List.take_length]
  · rw [if_neg (fun h => hk h.1)]
    have : n.seqs = [] := by
      have hm := h
      unfold mayN at hm
      split at hm
      · simp at hm; exact hm.1.2
      · split at hm
        · simp at hm; exact hm.1.2
        · cases hm
    rw [this]; rfl
theorem refsU_seqs {t : Tre} (h12 : t.length = 12) (hall : ∀ n ∈ t, mayN n = true) : ∀ k, k ≤ 12 → (refsU t k).map Rf.seq = (allS (t.take k)).filter nzB
  | 0, _ => by simp [refsU, allS]
  | k + 1, hk => by
    have ih := refsU_seqs h12 hall k (by omega)
    have hm : mayN (t.getD k default) = true := hall _ (by rw [getD_at (by omega)]; exact List.getElem_mem _)
    rw [refsU_succ, List.map_append, ih, refsN_seqs k (by omega) _ hm, allS_take (by omega), List.filter_append]
/-- Pages in order, from one on, up to m. -/
structure PagesI (l : List Rf) (a m : Int) : Prop where
  inc : l.Pairwise fun x y => x.page < y.page
  lo : ∀ x ∈ l, a < x.page
  hi : ∀ x ∈ l, x.page ≤ m
theorem PagesI.append {l1 l2 : List Rf} {a m b : Int} (h1 : PagesI l1 a m) (h2 : PagesI l2 m b) (ha : a ≤ m) (hb : m ≤ b) : PagesI (l1 ++ l2) a b := by
  refine ⟨?_, fun x hx => ?_, fun x hx => ?_⟩
  · rw [List.pairwise_append]
    refine ⟨h1.inc, h2.inc, fun x hx y hy => ?_⟩
    have := h1.hi x hx
    have := h2.lo y hy
    omega
  · rcases List.mem_append.1 hx with h | h
    · exact h1.lo x h
    · have := h2.lo x h; omega
  · rcases List.mem_append.1 hx with h | h
    · have := h1.hi x h; omega
    · exact h2.hi x h
theorem PagesI.nil (a m : Int) : PagesI [] a m := ⟨List.Pairwise.nil, fun _ h => (by cases h), fun _ h => (by cases h)⟩
theorem refsK_pages (i : Int) (n : Nod) : ∀ k : Nat, PagesI (refsK i n k) (i * 5) (i * 5 + k)
  | 0 => by
    have : refsK i n 0 = [] := by simp [refsK]
    rw [this]; exact .nil _ _
  | k + 1 => by
    have ih := refsK_pages i n k
    rw [refsK_succ]
    refine ih.append ?_ (by omega) (by omega)
    split
    · exact .nil _ _
    · refine ⟨List.pairwise_singleton _ _, fun x hx => ?_, fun x hx => ?_⟩ <;> (rw [List.mem_singleton.1 hx]; simp only; omega)
theorem refsN_pages (i : Int) (n : Nod) : PagesI (refsN i n) (i * 5) (i * 5 + 5) := by
  unfold refsN
  split
  · rename_i h
    have h5 := mayN_seqs h.2.1
    have := refsK_pages i n n.seqs.length
    exact ⟨this.inc, this.lo, fun x hx => by have := this.hi x hx; omega⟩
  · exact .nil _ _
theorem refsU_pages (t : Tre) : ∀ k : Nat, PagesI (refsU t k) 0 (k * 5)
  | 0 => by
    have : refsU t 0 = [] := by simp [refsU]
    rw [this]; exact .nil _ _
  | k + 1 => by
    rw [refsU_succ]
    have h2 := refsN_pages k (t.getD k default)
    refine (refsU_pages t k).append ⟨h2.inc, h2.lo, fun x hx => ?_⟩ (by omega) (by omega)
    have := h2.hi x hx
    omega
/-- How many pages the files have. -/
def usedN (n : Nod) : Nat := if n.kind = 1 then (n.seqs.filter nzB).length else 0
theorem pages_ok {n : Nod} {s e : Sl} {V : View} (h : NodR V s e n) (hm : mayN n = true) : CallV Try.prog 45 ⟨[nodV n s e]⟩ V fun r V' => r = .int .i64 (usedN n : Nat) ∧ V' = V := by
  refine f45_x ?_
  unfold f45_n
  have hsn := h.seqs.n
  have h5 := mayN_seqs hm
  refine fun _ => joinP_cut (fun q V' => q.1 = (!decide (n.kind = 1)) ∧ V' = V) (br_intro (fun hb => ⟨by rw [hb], rfl⟩) (fun hb => (refN_ok h).mono ?_)) ?_
  · rintro r V1 ⟨rfl, rfl⟩
    refine ⟨_, rfl, ?_, rfl⟩
    rw [hb, hm]; rfl
  rintro ⟨q, ⟨⟩⟩ V1 ⟨h1, hV⟩
  simp only at h1 hV
  subst h1 hV
  dsimp only [unc]
  refine br_intro (fun hb => ⟨?_, rfl⟩) (fun hb => ?_)
  · unfold usedN; rw [if_neg (of_decide_eq_false (not_t hb))]; rfl
  have hU : usedN n = (n.seqs.filter nzB).length := by unfold usedN; rw [if_pos (of_decide_eq_true (not_f hb))]
  rw [hU]
  refine loop2 (k := .int .i64) (l := .int .i64) (fun (x : Int) (j : Int) V' => V' = V1 ∧ ∃ i : Nat, j = i ∧ i ≤ n.seqs.length ∧ x = (((n.seqs.take i).filter nzB).length : Nat)) (fun _ (j : Int) _ => n.seqs.length - j.toNat) ⟨rfl, 0, rfl, by omega, rfl⟩ ?_
  rintro (x : Int) (j : Int) V2 ⟨rfl, i, rfl, hi, rfl⟩
  refine br_intro (fun hlt => ?_) (fun hge => ?_)
  · have hlt : i < n.seqs.length := by have := of_decide_eq_true hlt; omega
    obtain ⟨ad, ha, hc, _⟩ := h.seqs.intN hlt
    have hfl : ((n.seqs.take i).filter nzB).length ≤ (n.seqs.take i).length := List.length_filter_le _ _
    rw [List.length_take] at hfl
    have hst : ((n.seqs.take (i + 1)).filter nzB).length = ((n.seqs.take i).filter nzB).length + if n.seqs.getD i 0 = 0 then 0 else 1 := by
      rw [List.take_add_one, List.getElem?_eq_getElem hlt, List.filter_append, List.length_append, getD_at0 hlt]
      congr 1
      by_cases h0 : n.seqs[i] = 0
      · simp [h0, nzB]
      · simp [h0, nzB]
    refine ⟨by omega, by omega, ad, ha, _, hc, joinP_cut (fun g V' => g.1 = (((n.seqs.take (i + 1)).filter nzB).length : Nat) ∧ V' = V2) (br_intro (fun h0 => ⟨inI64 (by omega) (by omega), ?_, rfl⟩) (fun h0 => ⟨?_, rfl⟩)) ?_⟩
    · rw [hst, if_neg (of_decide_eq_false (not_t h0))]; rfl
    · rw [hst, if_pos (of_decide_eq_true (not_f h0))]; rfl
    · rintro ⟨g, ⟨⟩⟩ V3 ⟨h1, hV⟩
      simp only at h1 hV
      subst h1 hV
      exact ⟨inI64 (by omega) (by omega), ⟨rfl, i + 1, by omega, by omega, rfl⟩, by omega⟩
  · have hge : i = n.seqs.length := by have := of_decide_eq_false hge; omega
    subst hge
    rw [List.take_length]
    exact ⟨rfl, rfl⟩
def usedU (t : Tre) : Nat → Nat
  | 0 => 0
  | k + 1 => usedU t k + usedN (t.getD k default)
theorem usedN_le {n : Nod} (h : mayN n = true) : usedN n ≤ 5 := by
  unfold usedN
  split
  · exact Nat.le_trans (List.length_filter_le _ _) (mayN_seqs h)
  · omega
theorem usedN_refs {i : Nat} (hi : i < 12) {n : Nod} (h : mayN n = true) : (refsN i n).length = usedN n := by
  have := congrArg List.length (refsN_seqs i hi n h)
  rw [List.length_map] at this
  rw [this]
  unfold usedN
  split
  · rfl
  · rename_i hk
    have hs : n.seqs = [] := by
      have hm := h
      unfold mayN at hm
      split at hm
      · simp at hm; exact hm.1.2
      · split at hm
        · simp at hm; exact hm.1.2
        · cases hm
    rw [hs]; rfl
theorem usedU_refs {t : Tre} (h12 : t.length = 12) (hall : ∀ n ∈ t, mayN n = true) : ∀ k, k ≤ 12 → (refsU t k).length = usedU t k
  | 0, _ => by simp [refsU, usedU]
  | k + 1, hk => by
    have hm : mayN (t.getD k default) = true := hall _ (by rw [getD_at (by omega)]; exact List.getElem_mem _)
    rw [refsU_succ, List.length_append, usedU_refs h12 hall k (by omega), usedN_refs (by omega) hm]; rfl
theorem used_ok {s : Sl} {t : Tre} {V : View} (h : SlR V s t) (hM : mayT t = true) : CallV Try.prog 15 ⟨[treV s]⟩ V fun r V' => r = .int .i64 ((refsU t 12).length : Nat) ∧ V' = V := by
  obtain ⟨h12, hall, _⟩ := mayT_facts hM
  rw [usedU_refs h12 hall 12 (Nat.le_refl _)]
  have hn := h.n
  have hm : ∀ i, i < 12 → mayN (t.getD i default) = true := fun i hi => hall _ (by rw [getD_at (by omega)]; exact List.getElem_mem _)
  have hul : ∀ k, k ≤ 12 → usedU t k ≤ 5 * k := by
    intro k
    induction k with
    | zero => intro _; simp [usedU]
    | succ k ih =>
      intro hk
      have := ih (by omega)
      have := usedN_le (hm k (by omega))
      show usedU t k + usedN (t.getD k default) ≤ _
      omega
  refine f15_x ?_
  unfold f15_n
  refine fun _ => CallV.mono (K := fun r V' => r = .bool true ∧ V' = V) ?_ ?_
  · refine f44_x ?_
    unfold f44_n
    refine fun _ => loop1 (k := .int .i64) (fun (x : Int) V' => V' = V ∧ ∃ i : Nat, x = i ∧ i ≤ 12) (fun (x : Int) _ => 12 - x.toNat) ⟨rfl, 0, rfl, by omega⟩ ?_
    rintro (x : Int) V1 ⟨rfl, i, rfl, hi⟩
    refine br_intro (fun hlt => ?_) (fun hge => ⟨?_, rfl⟩)
    · have hlt : i < 12 := by have := of_decide_eq_true hlt; omega
      obtain ⟨ad, sq, en, ha, hc, hN⟩ := h.nodN (i := i) (by omega)
      refine ⟨by omega, by omega, ad, ha, _, _, _, sq, en, hc, fun _ => (refN_ok hN).mono ?_⟩
      rintro r V2 ⟨rfl, rfl⟩
      refine ⟨_, rfl, br_intro (fun hb => ?_) (fun _ => ⟨inI64 (by omega) (by omega), ⟨rfl, i + 1, by omega, by omega⟩, by omega⟩)⟩
      rw [hm i hlt] at hb; cases hb
    · rw [decide_eq_true (show ((s.n : Nat) : Int) = 12 by omega)]
  rintro r V1 ⟨rfl, rfl⟩
  refine ⟨_, rfl, br_intro (fun hb => absurd hb (by decide)) (fun _ => ?_)⟩
  refine loop2 (k := .int .i64) (l := .int .i64) (fun (x : Int) (j : Int) V' => V' = V1 ∧ ∃ i : Nat, j = i ∧ i ≤ 12 ∧ x = (usedU t i : Nat)) (fun _ (j : Int) _ => 12 - j.toNat) ⟨rfl, 0, rfl, by omega, rfl⟩ ?_
  rintro (x : Int) (j : Int) V2 ⟨rfl, i, rfl, hi, rfl⟩
  refine br_intro (fun hlt => ?_) (fun hge => ?_)
  · have hlt : i < 12 := by have := of_decide_eq_true hlt; omega
    obtain ⟨ad, sq, en, ha, hc, hN⟩ := h.nodN (i := i) (by omega)
    have h1 := hul i hi
    have h2 := usedN_le (hm i hlt)
    refine ⟨by omega, by omega, ad, ha, _, _, _, sq, en, hc, fun _ => (pages_ok hN (hm i hlt)).mono ?_⟩
    rintro r V3 ⟨rfl, rfl⟩
    exact ⟨_, rfl, inI64 (by omega) (by omega), inI64 (by omega) (by omega), ⟨rfl, i + 1, by omega, by omega, rfl⟩, by omega⟩
  · have hge : i = 12 := by have := of_decide_eq_false hge; omega
    subst hge
    exact ⟨rfl, rfl⟩
theorem SlR.rfN {V : View} {s : Sl} {l : List Rf} (h : SlR V s l) {i : Nat} (hi : i < l.length) :
    ∃ ad, s.a = some ad ∧ cellsAt V (ad.add (i * 2)) [.int .i64 l[i].page, .int .i64 l[i].seq] := by
  obtain ⟨ad, hx, ha, hc, _⟩ := h.rf (x := (i : Int)) (by omega) (by have := h.n; omega)
  exact ⟨ad, ha, hc⟩
theorem rootNames_ok {s : Sl} {t : Tre} {V : View} (h : SlR V s t) : CallV Try.prog 5 ⟨[treV s]⟩ V fun r V' => r = .bool true ∧ V.Le V' := by
  refine f5_x ?_
  unfold f5_n
  refine fun _ => (light15_ok h).mono ?_
  rintro r V1 ⟨x, rfl, _, _, _, rfl⟩
  refine ⟨x, rfl, br_intro (fun _ => awakeJ (View.Le.refl _) fun V' hV => ⟨rfl, hV⟩) (fun _ => (mayTree_ok h).mono ?_)⟩
  rintro r V2 ⟨rfl, hV2⟩
  refine ⟨_, rfl, br_intro (fun hb => ?_) (fun hb => ?_)⟩
  · have hM := not_t hb
    refine joinP_cut (fun q V' => q.1 = true ∧ V1.Le V') ((refsT_ok (h.mono hV2)).mono ?_) ?_
    · rintro r V3 ⟨y, rfl, hy, hV3⟩
      have e : refsT t = [] := by unfold refsT; rw [hM]; rfl
      rw [e] at hy
      have hyn : y.n = 0 := hy.n
      refine ⟨y, rfl, br_intro (fun _ => awakeJ (hV2.trans hV3) fun V' hV => ⟨rfl, hV⟩) (fun hb => ?_)⟩
      have := of_decide_eq_false hb
      omega
    · rintro ⟨q, ⟨⟩⟩ V4 ⟨h1, hV⟩
      simp only at h1 hV
      subst h1
      exact ⟨rfl, hV⟩
  have hM := not_f hb
  obtain ⟨h12, hall, hap⟩ := mayT_facts hM
  refine (refsT_ok (h.mono hV2)).mono ?_
  rintro r V3 ⟨y, rfl, hy, hV3⟩
  have e : refsT t = refsU t 12 := by unfold refsT; rw [if_pos hM, h12]
  rw [e] at hy
  have hyn := hy.n
  have hyc := hy.c
  have hpg := refsU_pages t 12
  have hrl := refsU_len t 12
  have hsq : ((refsU t 12).map Rf.seq).Nodup := by
    rw [refsU_seqs h12 hall 12 (Nat.le_refl _), List.take_of_length_le (by omega)]
    unfold apartL at hap
    exact of_decide_eq_true hap
  have hinc := List.pairwise_iff_getElem.1 hpg.inc
  have hneq : ∀ i j (hi : i < (refsU t 12).length) (hj : j < (refsU t 12).length), j < i → (refsU t 12)[j].seq ≠ (refsU t 12)[i].seq := by
    intro i j hi hj hji heq
    have := List.pairwise_iff_getElem.1 hsq j i (by simpa using hj) (by simpa using hi) hji
    simp only [List.getElem_map] at this
    exact this heq
  refine ⟨y, rfl, ?_⟩
  generalize hL : refsU t 12 = L at *
  have hV13 := hV2.trans hV3
  refine loop1 (k := .int .i64) (fun (x : Int) V' => V' = V3 ∧ ∃ i : Nat, x = i ∧ i ≤ L.length) (fun (x : Int) _ => L.length - x.toNat) ⟨rfl, 0, rfl, by omega⟩ ?_
  rintro (x : Int) V4 ⟨rfl, i, rfl, hi⟩
  refine br_intro (fun hlt => ?_) (fun hge => ?_)
  · have hlt : i < L.length := by have := of_decide_eq_true hlt; omega
    obtain ⟨ad, ha, hc⟩ := hy.rfN hlt
    have p1 := hpg.lo _ (List.getElem_mem hlt)
    have p2 := hpg.hi _ (List.getElem_mem hlt)
    refine ⟨by omega, by omega, ad, ha, _, _, hc, fun _ => joinP_cut (fun q V' => q.1 = false ∧ V' = V4) ⟨trivial, V4, View.Le.refl _, br_intro (fun hb => ?_) (fun _ => br_intro (fun h0 => ?_) (fun _ => ⟨rfl, rfl⟩))⟩ ?_⟩
    · exfalso
      rw [decide_eq_false (show ¬ L[i].page < 1 by omega)] at hb
      have := of_decide_eq_true hb
      omega
    · have h0 : 0 < i := by have := of_decide_eq_true h0; omega
      obtain ⟨j, rfl⟩ : ∃ j, i = j + 1 := ⟨i - 1, by omega⟩
      obtain ⟨ad2, ha2, hc2⟩ := hy.rfN (i := j) (by omega)
      have e1 : (((j + 1 : Nat) : Int) - 1).toNat = j := by omega
      have := hinc j (j + 1) (by omega) hlt (by omega)
      refine ⟨inI64 (by omega) (by omega), by omega, by omega, ad2, ha2, L[j].page, ?_, decide_eq_false (by omega), rfl⟩
      rw [e1]; exact cellsAt_nth hc2 0 rfl
    · rintro ⟨q, ⟨⟩⟩ V5 ⟨h1, hV⟩
      simp only at h1 hV
      subst h1 hV
      dsimp only [unc]
      refine br_intro (fun hb => absurd hb (by decide)) (fun _ => ⟨by omega, by omega, by omega, ?_⟩)
      have e2 : (if y.c = 0 then y.a else Option.map (fun (x : Addr) => x.add 0) y.a) = y.a := by rw [map_add_zero]; simp
      rw [e2, Nat.sub_zero, Int.toNat_natCast]
      refine loop1 (k := .int .i64) (fun (x : Int) V' => V' = V5 ∧ ∃ j : Nat, x = j ∧ j ≤ i) (fun (x : Int) _ => i - x.toNat) ⟨rfl, 0, rfl, by omega⟩ ?_
      rintro (x : Int) V6 ⟨rfl, j, rfl, hj⟩
      refine br_intro (fun hltj => ?_) (fun hgej => ⟨inI64 (by omega) (by omega), ⟨rfl, i + 1, by omega, by omega⟩, by omega⟩)
      have hltj : j < i := by have := of_decide_eq_true hltj; omega
      obtain ⟨ad2, ha2, hc2⟩ := hy.rfN (i := j) (by omega)
      refine ⟨by omega, by omega, ad2, ha2, _, _, hc2, fun _ => br_intro (fun hb => ?_) (fun _ => ⟨inI64 (by omega) (by omega), ⟨rfl, j + 1, by omega, by omega⟩, by omega⟩)⟩
      exact absurd (of_decide_eq_true hb) (hneq i j hlt (by omega) hltj)
  · refine joinP_cut (fun q V' => q.1 = true ∧ V1.Le V') ((used_ok (h.mono hV13) hM).mono ?_) ?_
    · rintro r V5 ⟨rfl, rfl⟩
      rw [hL]
      refine ⟨_, rfl, br_intro (fun _ => awakeJ hV13 fun V' hV => ⟨rfl, hV⟩) (fun hb => ?_)⟩
      have := of_decide_eq_false hb
      exact absurd (by rw [hyn]) this
    · rintro ⟨q, ⟨⟩⟩ V5 ⟨h1, hV⟩
      simp only at h1 hV
      subst h1
      exact ⟨rfl, hV⟩
end Go.Proofs.Ytpalkdmngckcoaa

/- RootForms: what the program answers is what the reference answers. -/
namespace Go.Proofs.Ytpalkdmngckcoaa
open Go
theorem rf_eq {x y : Rf} : (decide (x.page = y.page) && (decide (x.seq = y.seq) && true)) = decide (x = y) := by
  cases x; cases y
  simp only [Rf.mk.injEq, Bool.and_true, Bool.decide_and]
theorem sameR_ok {s t : Sl} {l m : List Rf} {V : View} (h : SlR V s l) (k : SlR V t m) : CallV Try.prog 20 ⟨[.slice s.a s.n s.c, .slice t.a t.n t.c]⟩ V fun r V' => r = .bool (decide (l = m)) ∧ V' = V := by
  refine f20_x ?_
  unfold f20_n
  have hn := h.n; have hlim := h.lim; have kn := k.n
  refine br_intro (fun hne => ⟨?_, rfl⟩) (fun heq => ?_)
  · have hne : ¬ (s.n : Int) = t.n := by simpa using hne
    rw [decide_eq_false]
    intro e; subst e; omega
  have heq : (s.n : Int) = t.n := by simpa using heq
  refine loop1 (k := .int .i64) (fun (x : Int) V' => V' = V ∧ 0 ≤ x ∧ x ≤ s.n ∧ l.take x.toNat = m.take x.toNat) (fun (x : Int) _ => s.n - x.toNat) ⟨rfl, by omega, by omega, rfl⟩ ?_
  rintro (x : Int) V' ⟨rfl, h0, h1, h2⟩
  refine br_intro (fun hlt => ?_) (fun hge => ?_)
  · have hlt : x < s.n := by simpa using hlt
    obtain ⟨ad, hx, ha, hc, _⟩ := h.rf h0 hlt
    obtain ⟨ad', hx', ha', hc', _⟩ := k.rf h0 (by omega)
    refine ⟨trivial, V', View.Le.refl _, h0, hlt, ad, ha, _, _, hc, h0, by omega, ad', ha', _, _, hc', trivial, ?_⟩
    rw [rf_eq]
    refine br_intro (fun hb => ⟨?_, rfl⟩) (fun hb => ⟨inI64 (by omega) (by omega), ⟨rfl, by omega, by omega, ?_⟩, by omega⟩)
    · have hb : ¬ l[x.toNat] = m[x.toNat] := by simpa using hb
      rw [decide_eq_false]
      intro e; subst e; exact hb rfl
    · have hb : l[x.toNat] = m[x.toNat] := by simpa using hb
      rw [show (x + 1).toNat = x.toNat + 1 by omega, List.take_add_one, List.take_add_one, h2, List.getElem?_eq_getElem hx, List.getElem?_eq_getElem hx', hb]
  · have hge : ¬ x < s.n := by simpa using hge
    rw [List.take_of_length_le (by omega), List.take_of_length_le (by omega)] at h2
    exact ⟨by rw [h2]; simp, rfl⟩
theorem BytesR.rep {V : View} {g : Bool} {t : Tre} {x : Sl} {e : Int} (h : BytesR V g t x e) : SlR V x (if g then encT t else []) ∧ e = if g then 0 else 1 := by
  cases g
  · obtain ⟨rfl, rfl⟩ := h; exact ⟨SlR.nil _ _ _, rfl⟩
  · exact h
theorem ParseR.rep {V : View} {o : Option Tre} {x : Sl} {e : Int} (h : ParseR V o x e) : SlR V x (o.getD []) ∧ e = if o.isSome then 0 else 5 := by
  cases o
  · obtain ⟨rfl, rfl⟩ := h; exact ⟨SlR.nil _ _ _, rfl⟩
  · exact h
theorem rootForms_ok {s b : Sl} {t : Tre} {l : List UInt8} {V : View} (h : SlR V s t) (k : SlR V b l) : CallV Try.prog 7 ⟨[treV s, .slice b.a b.n b.c]⟩ V fun r V' => r = .bool true ∧ V.Le V' := by
  refine f7_x ?_
  unfold f7_n
  have kn := k.n
  refine fun _ => (light15_ok h).mono ?_
  rintro r V1 ⟨x, rfl, x0, x1, _, rfl⟩
  refine ⟨x, rfl, br_intro (fun _ => awakeJ (View.Le.refl _) fun V' hV => ⟨rfl, hV⟩) (fun hb => ?_)⟩
  have hl : l.length ≤ 3000 := by
    by_cases hx : 0 < x
    · rw [decide_eq_true hx] at hb; cases hb
    · rw [decide_eq_false hx] at hb
      have := of_decide_eq_false hb; omega
  refine (bytes_ok h).mono ?_
  rintro r V2 ⟨x2, e2, rfl, h2, hV2⟩
  refine ⟨x2, e2, rfl, (rfBytes_ok (h.mono hV2)).mono ?_⟩
  rintro r V3 ⟨x3, e3, rfl, h3, hV3⟩
  have q3 := hV2.trans hV3
  refine ⟨x3, e3, rfl, (parse_ok (k.mono q3) (by omega)).mono ?_⟩
  rintro r V4 ⟨x4, e4, rfl, h4, hV4⟩
  have q4 := q3.trans hV4
  refine ⟨x4, e4, rfl, fun _ => (rfParse_ok (k.mono q4) (by omega)).mono ?_⟩
  rintro r V5 ⟨x5, e5, rfl, h5, hV5⟩
  have q5 := q4.trans hV5
  obtain ⟨g2, rfl⟩ := h2.rep
  obtain ⟨g3, rfl⟩ := h3.rep
  obtain ⟨g4, rfl⟩ := h4.rep
  obtain ⟨g5, rfl⟩ := h5.rep
  refine ⟨x5, _, rfl, fun _ => joinP_cut (fun g V' => g.1 = true ∧ V1.Le V') ⟨by first | exact trivial | exact drOk_fast (by kernel_rfl), V5, View.Le.refl _, _, u8_row (g2.mono ((hV3.trans hV4).trans hV5)), _, u8_row (g3.mono (hV4.trans hV5)), br_intro (fun _ => (refSameT_ok (g4.mono hV5) g5).mono ?_) (fun h => absurd h (by simp))⟩ ?_⟩
  · rintro r V6 ⟨rfl, rfl⟩
    refine ⟨_, rfl, View.Le.refl _, V6, View.Le.refl _, View.Le.refl _, br_intro (fun _ => (refsT_ok (h.mono q5)).mono ?_) (fun h => absurd h (by simp))⟩
    rintro r V7 ⟨x7, rfl, h7, hV7⟩
    refine ⟨x7, rfl, hV7, V7, hV7, View.Le.refl _, (rootRefs_ok (h.mono (q5.trans hV7))).mono ?_⟩
    rintro r V8 ⟨x8, rfl, h8, hV8⟩
    refine ⟨x8, rfl, hV8, V8, hV8, View.Le.refl _, (sameR_ok (h7.mono hV8) h8).mono ?_⟩
    rintro r V9 ⟨rfl, rfl⟩
    have q9 := (q5.trans hV7).trans hV8
    refine ⟨_, rfl, View.Le.refl _, V9, View.Le.refl _, View.Le.refl _, br_intro (fun _ => (clearT_ok (h.mono q9)).mono ?_) (fun h => absurd h (by simp))⟩
    rintro r V10 ⟨x10, rfl, h10, hV10⟩
    refine ⟨x10, rfl, hV10, (refClearT_ok (h.mono (q9.trans hV10))).mono ?_⟩
    rintro r V11 ⟨x11, rfl, h11, hV11⟩
    refine ⟨x11, rfl, (refSameT_ok (h10.mono hV11) h11).mono ?_⟩
    rintro r V12 ⟨rfl, rfl⟩
    exact ⟨_, rfl, br_intro (fun _ => awakeJ ((q9.trans hV10).trans hV11) fun V' hV => ⟨rfl, hV⟩) (fun h => absurd h (by simp))⟩
  · rintro ⟨g, ⟨⟩⟩ V6 ⟨h1, hV⟩
    simp only at h1 hV
    subst h1
    exact ⟨rfl, hV⟩
end Go.Proofs.Ytpalkdmngckcoaa

/- How rows and trees come in. -/
namespace Go.Proofs.Ytpalkdmngckcoaa
open Go Go.RowKit Go.ChangeShapes Go.WideShapes
section
variable {H : Type} {enc : TypeId × Value → H} {P : Program} {w : World} {base b0 : Nat} {sp : Nat → Bool} {held : Bool} {r : Go.Reach} {v : Value} {d : DataW H} {ps : List MemPlace}
theorem in_slice {α : Type} [Rep α] {t e : TypeId} (ht : P.underlying t = some (.slice e)) (hT : TrodRep P (List α) t) (hv : Value.okWide P w r b0 t v) (hd : DataW.Trod enc P w base sp held t v d ps) :
    ∃ (s : Sl) (l : List α), v = .slice s.a s.n s.c ∧ SlR (View.all w) s l := by
  obtain ⟨a, len, cap, rfl⟩ := okWide_slice ht hv
  obtain ⟨fuel, hf⟩ := hd
  obtain ⟨l, s, he, hs⟩ := hT.of hf
  simp [Value.cells] at he
  exact ⟨s, l, by rw [he.1, he.2.1, he.2.2], hs⟩
theorem in_tree {α : Type} [Rep α] {t te : TypeId} {fs : Array Field} (ht : P.underlying t = some (.struct fs)) (h0 : fieldX P t 0 = some (0, te)) (hc : P.cellsOf t = 1) (hce : P.cellsOf te = 1) (hT : TrodRep P (List α) te) (hv : Value.okWide P w r b0 t v) (hd : DataW.Trod enc P w base sp held t v d ps) :
    ∃ (s : Sl) (l : List α), v = .agg ⟨[.slice s.a s.n s.c]⟩ ∧ SlR (View.all w) s l := by
  obtain ⟨cs, rfl, hsz⟩ := okWide_struct ht hv
  obtain ⟨fuel, hf⟩ := hd
  obtain ⟨hl, n, y, g⟩ := trod_field h0 hf
  obtain ⟨cs⟩ := cs
  rw [hc] at hsz hl
  match cs, hsz with
  | [c], _ =>
    rw [hce] at g
    obtain ⟨l, s, he, hs⟩ := hT.of g
    simp [Value.cells] at he
    exact ⟨s, l, by rw [he], hs⟩
end
end Go.Proofs.Ytpalkdmngckcoaa
