/- Texts joined: Dir5Ok, In. -/
import Derived.Test.YtpalkdmngckcoaaDoorPk4
import Derived.Test.YtpalkdmngckcoaaDoorPk3
/- DirApart. -/
namespace Go.Proofs.YtpalkdmngckcoaaDoor
open Go
/-! ### bits -/
theorem wrap_toNat (z : BitVec 64) : IntKind.wrap .i64 (z.toNat : Int) = z.toInt := by
  unfold IntKind.wrap
  rw [BitVec.toInt_eq_toNat_bmod]
  simp [IntKind.signed, IntKind.bits, Int.bmod]
  have := z.isLt
  omega
theorem xor_int (a b : Int) : bitsI .xor .i64 a b = (BitVec.ofInt 64 a ^^^ BitVec.ofInt 64 b).toInt := wrap_toNat _
theorem xor_in (a b : Int) : inI .i64 (bitsI .xor .i64 a b) := by
  rw [xor_int]
  have h1 := BitVec.le_toInt (BitVec.ofInt 64 a ^^^ BitVec.ofInt 64 b)
  have h2 := BitVec.toInt_lt (x := BitVec.ofInt 64 a ^^^ BitVec.ofInt 64 b)
  exact inI64 (by simpa using h1) (by omega)
theorem toInt_of {a : Int} (h : inI .i64 a) : (BitVec.ofInt 64 a).toInt = a := by
  have h := inI64_iff.1 h
  rw [BitVec.toInt_ofInt]
  simp [Int.bmod]
  omega
theorem xor_same {a b : Int} (ha : inI .i64 a) (hb : inI .i64 b) : bitsI .xor .i64 a b = a ↔ b = 0 := by
  rw [xor_int]
  constructor
  · intro h
    have e1 : BitVec.ofInt 64 a ^^^ BitVec.ofInt 64 b = BitVec.ofInt 64 a := BitVec.toInt_inj.1 (by rw [h, toInt_of ha])
    have e2 : BitVec.ofInt 64 b = 0#64 := by
      have := congrArg (BitVec.ofInt 64 a ^^^ ·) e1
      simp only [← BitVec.xor_assoc, BitVec.xor_self, BitVec.zero_xor] at this
      exact this
    have e3 := toInt_of hb
    rw [e2] at e3
    rw [← e3]; rfl
  · rintro rfl
    have : BitVec.ofInt 64 0 = 0#64 := rfl
    rw [this, BitVec.xor_zero, toInt_of ha]
/-! ### views of one's own -/
/-- A write that a smaller view may do. -/
theorem lift_sets {U V : View} {a : Addr} {k : Nat} (hU : U.Le V) (h : canSet U a k) (vs : List Value) :
    canSet V a k ∧ (U.sets a vs).Le (V.sets a vs) ∧ ∀ W : View, W.Le V → W.see a.block = none → W.Le (V.sets a vs) := by
  obtain ⟨h0, c, e, f, h1, h2, h3⟩ := h
  have h4 := hU.see _ _ h1
  refine ⟨⟨h0, c, e, f, h4, h2, h3⟩, ?_, fun W hW hn => ?_⟩
  · unfold View.sets
    simp only [h1, h4]
    refine ⟨?_, fun i o hi => ?_, hU.out⟩
    · show max U.size _ ≤ max V.size _
      have := hU.size; omega
    · show (if i = a.block then _ else V.see i) = some o
      change (if i = a.block then _ else U.see i) = some o at hi
      split at hi
      · rename_i e; rw [if_pos e]; exact hi
      · rename_i e; rw [if_neg e]; exact hU.see _ _ hi
  · unfold View.sets
    simp only [h4]
    refine ⟨?_, fun i o hi => ?_, hW.out⟩
    · show W.size ≤ max V.size _
      have := hW.size; omega
    · have hne : i ≠ a.block := fun e => by rw [e, hn] at hi; cases hi
      rw [View.see_put_ne V _ hne]; exact hW.see _ _ hi
theorem sets_see_ne {U : View} {a : Addr} {vs : List Value} {i : Nat} (h : i ≠ a.block) : (U.sets a vs).see i = U.see i := by
  unfold View.sets
  split
  · exact View.see_put_ne U _ h
  · rfl
/-- Nothing but V's is in both. -/
def Dj (V A B : View) : Prop := ∀ i o, V.see i = none → A.see i = some o → B.see i = none
theorem Dj.symm {V A B : View} (h : Dj V A B) : Dj V B A := fun i o hv hb => by
  cases ha : A.see i with
  | none => rfl
  | some o' => rw [h i o' hv ha] at hb; cases hb
theorem OwnT.blk {V0 V : View} {x : Sl} {t : Tre} (h : OwnT V0 V x t) {ad : Addr} (ha : x.a = some ad) : V0.see ad.block = none := by
  obtain ⟨cs, _, _, hle⟩ := h
  exact see_none_le hle (minus_none ha)
/-! ### a copy whose one row of Seqs lies apart from all else -/
structure NodX where
  n : Nod
  f : Option Sl
instance : Rep NodX where
  sz := 5
  pos := by decide
  rep W vs x := ∃ sq en : Sl, vs = [.int .i64 x.n.kind, .int .i64 x.n.links, .int .i64 x.n.size, .slice sq.a sq.n sq.c, .slice en.a en.n en.c] ∧ inI .i64 x.n.kind ∧ inI .i64 x.n.links ∧ inI .i64 x.n.size ∧ (match x.f with
    | none => SlR W sq x.n.seqs
    | some y => sq = y) ∧ SlR W en x.n.ents
  len h := by obtain ⟨_, _, h, _⟩ := h; rw [h]; rfl
  one h := by obtain ⟨_, _, h, _⟩ := h; rw [h]; rfl
  mono {V V' vs x} hV h := by
    obtain ⟨sq, en, h, a, b, c, d, e⟩ := h
    refine ⟨sq, en, h, a, b, c, ?_, e.mono hV⟩
    cases hf : x.f with
    | none => rw [hf] at d; exact SlR.mono hV d
    | some y => rw [hf] at d; exact d
def flg (y : Sl) : Nat → Tre → List NodX
  | _, [] => []
  | 0, n :: l => ⟨n, some y⟩ :: l.map fun n => ⟨n, none⟩
  | k + 1, n :: l => ⟨n, none⟩ :: flg y k l
theorem flg_short {y : Sl} : ∀ {k : Nat} {l : Tre}, l.length ≤ k → flg y k l = l.map fun n => (⟨n, none⟩ : NodX)
  | 0, [], _ => rfl
  | 0, _ :: _, h => by simp at h
  | _ + 1, [], _ => rfl
  | k + 1, n :: l, h => by
    simp only [flg, List.map_cons]
    rw [flg_short (by simpa using h)]
theorem flg_snoc {y : Sl} (n : Nod) : ∀ (k : Nat) (l : Tre), flg y k (l ++ [n]) = flg y k l ++ [⟨n, if k = l.length then some y else none⟩]
  | 0, [] => rfl
  | 0, m :: l => by simp [flg]
  | k + 1, [] => by simp [flg]
  | k + 1, m :: l => by
    simp only [List.cons_append, flg, flg_snoc n k l, List.length_cons, Nat.add_right_cancel_iff]
theorem flg_len {y : Sl} : ∀ (k : Nat) (l : Tre), (flg y k l).length = l.length
  | 0, [] => rfl
  | _ + 1, [] => rfl
  | 0, n :: l => by simp [flg]
  | k + 1, n :: l => by simp [flg, flg_len k l]
theorem plain_rep {W : View} : ∀ {cs : List Value} {l : Tre}, repL W cs (l.map fun n => (⟨n, none⟩ : NodX)) → repL W cs l
  | _, [], h => h
  | _, n :: l, ⟨vs, us, e, ⟨sq, en, h1, h2, h3, h4, h5, h6⟩, h⟩ => ⟨vs, us, e, ⟨sq, en, h1, h2, h3, h4, h5, h6⟩, plain_rep h⟩
/-- The row that lies apart holds these. -/
theorem flg_fill {W : View} {y : Sl} {q : List Int} (hy : SlR W y q) : ∀ {k : Nat} {cs : List Value} {l : Tre}, repL W cs (flg y k l) → k < l.length → repL W cs (l.set k { l.getD k default with seqs := q })
  | _, _, [], _, hk => absurd hk (by simp)
  | 0, _, n :: l, ⟨vs, us, e, ⟨sq, en, h1, h2, h3, h4, h5, h6⟩, h⟩, _ => by
    refine ⟨vs, us, e, ⟨sq, en, h1, h2, h3, h4, ?_, h6⟩, plain_rep h⟩
    have h5 : sq = y := h5
    rw [h5]; exact hy
  | k + 1, _, n :: l, ⟨vs, us, e, ⟨sq, en, h1, h2, h3, h4, h5, h6⟩, h⟩, hk => ⟨vs, us, e, ⟨sq, en, h1, h2, h3, h4, h5, h6⟩, by
    have := flg_fill hy h (by simpa using hk)
    simpa using this⟩
theorem flg_at {y : Sl} : ∀ {k : Nat} {l : Tre} (h : k < (flg y k l).length), (flg y k l)[k] = ⟨l.getD k default, some y⟩
  | _, [], h => absurd h (by simp [flg])
  | 0, n :: l, _ => by simp [flg]
  | k + 1, n :: l, h => by
    simp only [flg, List.getElem_cons_succ]
    rw [flg_at]
    simp
theorem refCopyN2_ok {n : Nod} {s e : Sl} {V : View} (h : NodR V s e n) (hl : LightN n) : CallV Tryd.prog 40 ⟨[nodV n s e]⟩ V fun r V' => ∃ (s' e' : Sl) (qs : List Value), r = nodV n s' e' ∧ Buf V' s' 3 1 qs ∧ intL qs n.seqs ∧ SlR (V'.minus s') e' n.ents ∧ V.Le (V'.minus s') := by
  refine f40_x ?_
  unfold f40_n
  have l1 := hl.1
  have l2 := hl.2
  refine fun _ _ => ⟨trivial, V, View.Le.refl _, ?_⟩
  refine appRow (α := Int) (V0 := V) (l := []) (m := n.seqs) rfl (cs := []) (Buf.nil _ _ _) rfl h.seqs (View.Le.refl _) (by simp; omega) (by simp; omega) ?_
  intro x V1 cs hb hr hV1
  have hV1' := hV1.trans (View.minus_le _ _)
  refine ⟨hV1', ?_⟩
  refine appRow (α := Ent) (V0 := V1) (l := []) (m := n.ents) rfl (cs := []) (Buf.nil _ _ _) rfl (h.ents.mono hV1') (View.Le.refl _) (by simp; omega) (by simp; omega) ?_
  intro y V2 cs2 hb2 hr2 hV2
  have hV2' := hV2.trans (View.minus_le _ _)
  have hxb : Buf (V2.minus y) x 3 1 cs := hb.mono hV2
  have hsw := hxb.swap hb2
  refine ⟨x, y, cs, rfl, hb.mono hV2', hr.int, ?_, hV1.trans (minus_mono hV2' x)⟩
  exact hsw.slR (W := (V2.minus y).minus x) (hr2.ent).rep ((minus_mono (View.minus_le _ _) x))
/-- What such a copy is. -/
structure CopX (V V' : View) (x y : Sl) (k : Nat) (t : Tre) (cs ds : List Value) : Prop where
  buf : Buf V' x 31 5 cs
  row : Buf (V'.minus x) y 3 1 ds
  rep : repL ((V'.minus x).minus y) cs (flg y k t)
  ints : intL ds (t.getD k default).seqs
  le : V.Le ((V'.minus x).minus y)
theorem minus_nil (V : View) : V.minus ⟨none, 0, 0⟩ = V := rfl
theorem refCopyX_ok {s : Sl} {t : Tre} {V : View} {k : Nat} (hk : k < t.length) (h : SlR V s t) (hl : t.length ≤ 1000 ∧ ∀ n ∈ t, LightN n) : CallV Tryd.prog 17 ⟨[treV s]⟩ V fun r V' => ∃ (x y : Sl) (cs ds : List Value), r = treV x ∧ CopX V V' x y k t cs ds := by
  refine f17_x ?_
  unfold f17_n
  have hn := h.n
  refine fun _ _ _ => loop2 (k := .int .i64) (l := .sl) (fun (j : Int) (x : Sl) V' => ∃ (i : Nat) (y : Sl) (cs ds : List Value), j = i ∧ i ≤ t.length ∧ Buf V' x 31 5 cs ∧ Buf (V'.minus x) y 3 1 ds ∧ repL ((V'.minus x).minus y) cs (flg y k (t.take i)) ∧ V.Le ((V'.minus x).minus y) ∧
      ((i ≤ k ∧ y = ⟨none, 0, 0⟩ ∧ ds = []) ∨ (k < i ∧ intL ds (t.getD k default).seqs))) (fun (j : Int) _ _ => t.length - j.toNat) ⟨0, ⟨none, 0, 0⟩, [], [], rfl, by omega, Buf.nil _ _ _, Buf.nil _ _ _, (by cases k <;> rfl), View.Le.refl _, .inl ⟨by omega, rfl, rfl⟩⟩ ?_
  rintro (j : Int) (x : Sl) V1 ⟨i, y, cs, ds, rfl, hi, hb, hy, hr, hle, hcase⟩
  have hV1 := hle.trans ((View.minus_le _ _).trans (View.minus_le _ _))
  refine br_intro (fun hlt => ?_) (fun hge => ?_)
  · have hlt : i < t.length := by have := of_decide_eq_true hlt; omega
    obtain ⟨ad, sq, en, ha, hc, hN⟩ := (h.mono hle).nodN hlt
    have hmem : t.getD i default ∈ t := by rw [getD_at hlt]; exact List.getElem_mem _
    have hx := hb.n_eq (α := NodX) hr
    rw [flg_len, List.length_take] at hx
    have hl1 := hl.1
    have htk : t.take (i + 1) = t.take i ++ [t.getD i default] := by rw [List.take_add_one, List.getElem?_eq_getElem hlt, getD_at hlt]; rfl
    have hil : (t.take i).length = i := by rw [List.length_take]; omega
    have hsn : ∀ y, flg y k (t.take (i + 1)) = flg y k (t.take i) ++ [⟨t.getD i default, if k = i then some y else none⟩] := fun y => by rw [htk, flg_snoc, hil]
    refine ⟨by omega, by omega, ad, ha, _, _, _, sq, en, cellsAt_mono ((View.minus_le _ _).trans (View.minus_le _ _)) hc, fun _ => ⟨trivial, V, hV1, ((refCopyN2_ok hN (hl.2 _ hmem)).besideB2 hb hy).mono ?_⟩⟩
    rintro r V2 ⟨U, ⟨s', e', qs, rfl, hs', hqs, he', hU⟩, hU2, hb2, hy2⟩
    have hstep := (hU.trans (View.minus_le _ _)).trans hU2
    have hle2 := hle.trans hstep
    have hV2 := hle2.trans ((View.minus_le _ _).trans (View.minus_le _ _))
    refine ⟨_, _, _, s', e', rfl, hV2, fun r hr1 => ?_⟩
    have hfr := View.see_none_of_ge hr1
    refine ⟨hV2.trans (View.put_le hfr), ?_⟩
    rcases hcase with ⟨hik, rfl, rfl⟩ | ⟨hki, hds⟩
    · by_cases hke : k = i
      · subst hke
        have hs2 : Buf (V2.minus x) s' 3 1 qs := hs'.mono hU2
        have hU3 : (U.minus s').Le ((V2.minus x).minus s') := minus_mono hU2 s'
        have hold : repL ((V2.minus x).minus s') cs (flg s' k (t.take k)) := by
          rw [flg_short (by omega)]
          rw [flg_short (by omega)] at hr
          exact hr.mono (hU.trans hU3)
        have hp := minus_mono (put_minus_le (x := x) (o := .cells ⟨[.int .i64 (t.getD k default).kind, .int .i64 (t.getD k default).links, .int .i64 (t.getD k default).size, .slice s'.a s'.n s'.c, .slice e'.a e'.n e'.c]⟩ 31 (0, 0)) hfr) s'
        refine app0b (α := NodX) (V0 := (V2.minus x).minus s') rfl (hb2.put hfr) (hs2.mono (put_minus_le hfr)) hold (d := ⟨t.getD k default, some s'⟩) (vs := [.int .i64 (t.getD k default).kind, .int .i64 (t.getD k default).links, .int .i64 (t.getD k default).size, .slice s'.a s'.n s'.c, .slice e'.a e'.n e'.c]) ⟨s', e', rfl, hN.kind, hN.links, hN.size, rfl, he'.mono hU3⟩ hp (rowAt_new (View.see_put_same _ _ _) rfl) (by rw [flg_len]; omega) (by rw [flg_len]; omega) ?_
        intro z V3 hz hzs hzr hzle
        refine ⟨inI64 (by omega) (by omega), ⟨k + 1, s', _, qs, by omega, by omega, hz, hzs, ?_, (hle.trans (hU.trans hU3)).trans hzle, .inr ⟨by omega, hqs⟩⟩, by omega⟩
        rw [hsn, if_pos rfl]; exact hzr.mono hzle
      · have hd : NodR (V2.minus x) s' e' (t.getD i default) := ⟨hN.kind, hN.links, hN.size, (hs'.slR (W := U) hqs.rep (View.Le.refl _)).mono hU2, (he'.mono (View.minus_le _ _)).mono hU2⟩
        have hp := put_minus_le (x := x) (o := .cells ⟨[.int .i64 (t.getD i default).kind, .int .i64 (t.getD i default).links, .int .i64 (t.getD i default).size, .slice s'.a s'.n s'.c, .slice e'.a e'.n e'.c]⟩ 31 (0, 0)) hfr
        refine app0b (α := NodX) (y := ⟨none, 0, 0⟩) (V0 := V2.minus x) (e' := 3) (sz' := 1) (ds := []) rfl (hb2.put hfr) (Buf.nil _ _ _) (hr.mono hstep) (d := ⟨t.getD i default, none⟩) (vs := [.int .i64 (t.getD i default).kind, .int .i64 (t.getD i default).links, .int .i64 (t.getD i default).size, .slice s'.a s'.n s'.c, .slice e'.a e'.n e'.c]) ⟨s', e', rfl, hd.kind, hd.links, hd.size, hd.seqs, hd.ents⟩ hp (rowAt_new (View.see_put_same _ _ _) rfl) (by rw [flg_len]; omega) (by rw [flg_len]; omega) ?_
        intro z V3 hz hzs hzr hzle
        refine ⟨inI64 (by omega) (by omega), ⟨i + 1, ⟨none, 0, 0⟩, _, [], by omega, by omega, hz, hzs, ?_, hle2.trans hzle, .inl ⟨by omega, rfl, rfl⟩⟩, by omega⟩
        rw [hsn, if_neg hke]; exact hzr.mono hzle
    · have hd : NodR ((V2.minus x).minus y) s' e' (t.getD i default) := ⟨hN.kind, hN.links, hN.size, (hs'.slR (W := U) hqs.rep (View.Le.refl _)).mono hU2, (he'.mono (View.minus_le _ _)).mono hU2⟩
      have hp := minus_mono (put_minus_le (x := x) (o := .cells ⟨[.int .i64 (t.getD i default).kind, .int .i64 (t.getD i default).links, .int .i64 (t.getD i default).size, .slice s'.a s'.n s'.c, .slice e'.a e'.n e'.c]⟩ 31 (0, 0)) hfr) y
      refine app0b (α := NodX) (V0 := (V2.minus x).minus y) rfl (hb2.put hfr) (hy2.mono (put_minus_le hfr)) (hr.mono hstep) (d := ⟨t.getD i default, none⟩) (vs := [.int .i64 (t.getD i default).kind, .int .i64 (t.getD i default).links, .int .i64 (t.getD i default).size, .slice s'.a s'.n s'.c, .slice e'.a e'.n e'.c]) ⟨s', e', rfl, hd.kind, hd.links, hd.size, hd.seqs, hd.ents⟩ hp (rowAt_new (View.see_put_same _ _ _) rfl) (by rw [flg_len]; omega) (by rw [flg_len]; omega) ?_
      intro z V3 hz hzs hzr hzle
      refine ⟨inI64 (by omega) (by omega), ⟨i + 1, y, _, ds, by omega, by omega, hz, hzs, ?_, hle2.trans hzle, .inr ⟨by omega, hds⟩⟩, by omega⟩
      rw [hsn, if_neg (by omega)]; exact hzr.mono hzle
  · have hge : i = t.length := by have := of_decide_eq_false hge; omega
    subst hge
    rw [List.take_length] at hr
    rcases hcase with ⟨h1, _⟩ | ⟨_, hds⟩
    · omega
    · exact ⟨x, y, cs, ds, rfl, hb, hy, hr, hds, hle⟩
theorem CopX.vle {V V' : View} {x y : Sl} {k : Nat} {t : Tre} {cs ds : List Value} (h : CopX V V' x y k t cs ds) : V.Le V' := h.le.trans ((View.minus_le _ _).trans (View.minus_le _ _))
theorem CopX.slR {V V' : View} {x y : Sl} {k : Nat} {t : Tre} {cs ds : List Value} (h : CopX V V' x y k t cs ds) (hk : k < t.length) : SlR V' x t := by
  have hA : ((V'.minus x).minus y).Le V' := (View.minus_le _ _).trans (View.minus_le _ _)
  have hy : SlR V' y (t.getD k default).seqs := (h.row.mono (View.minus_le _ _)).slR (W := V') h.ints.rep (View.Le.refl _)
  have := flg_fill hy (h.rep.mono hA) hk
  have e : t.set k { t.getD k default with seqs := (t.getD k default).seqs } = t := by
    show t.set k (t.getD k default) = t
    rw [getD_at hk]; exact List.set_getElem_self _
  rw [e] at this
  exact h.buf.slR this (View.Le.refl _)
/-- Its node k: the row that lies apart is read there. -/
theorem CopX.cell {V V' : View} {x y : Sl} {k : Nat} {t : Tre} {cs ds : List Value} (h : CopX V V' x y k t cs ds) (hk : k < t.length) : ∃ ad, x.a = some ad ∧ V'.cell? ((ad.add (k * 5)).add 3) = some (.slice y.a y.n y.c) := by
  have hk' : k < (flg y k t).length := by rw [flg_len]; exact hk
  obtain ⟨vs, hv, hg⟩ := h.rep.get k hk'
  rw [flg_at hk'] at hv
  obtain ⟨sq, en, rfl, _, _, _, h5, _⟩ := hv
  have h5 : sq = y := h5
  subst h5
  have hn := h.buf.n_eq (α := NodX) h.rep
  rw [flg_len] at hn
  rcases h.buf.own with ⟨_, h1⟩ | ⟨q, al, h1, _⟩
  · have := h.buf.le; omega
  · refine ⟨_, h1, ?_⟩
    have hrow := h.buf.row
    rw [h1] at hrow
    rw [Addr.add_add]
    exact hrow.2 _ _ (hg 3 _ rfl)
/-- One element of the row that lies apart is set. -/
theorem CopX.set {V V' : View} {x y : Sl} {k : Nat} {t : Tre} {cs ds : List Value} (h : CopX V V' x y k t cs ds) (hk : k < t.length) {i : Nat} (hi : i < (t.getD k default).seqs.length) {v : Int} (hv : inI .i64 v) :
    ∃ ad, y.a = some ad ∧ V.see ad.block = none ∧ canSet V' (ad.add (i * 1)) 1 ∧ SlR (V'.sets (ad.add (i * 1)) [.int .i64 v]) x (t.set k { t.getD k default with seqs := (t.getD k default).seqs.set i v }) := by
  have hyB := h.row.mono (View.minus_le V' x)
  obtain ⟨ad, ha, h1, h2, h3, h4⟩ := hyB.setE (α := Int) (i := i) (d := v) (vs := [.int .i64 v]) h.ints.rep ⟨rfl, hv⟩ hi
  refine ⟨ad, ha, see_none_le h.le (minus_none ha), h1, ?_⟩
  have hxB := (h.row.swap h.buf).mono h4
  have hA := ((minus_minus_le V' x y).trans (View.minus_le _ _)).trans (h4.trans (View.minus_le _ _))
  have hx2 := hxB.mono (View.minus_le _ _)
  exact hx2.slR (flg_fill (h2.slR h3 (View.minus_le _ _)) (h.rep.mono hA) hk) (View.Le.refl _)
theorem copyJ1 {s : Sl} {t : Tre} {V : View} {G : Sl → View → Prop} (h : SlR V s t) (hl : t.length ≤ 1000 ∧ ∀ n ∈ t, LightN n) (hG : ∀ x V', OwnT V V' x t → G x V') :
    CallV Tryd.prog 17 ⟨[treV s]⟩ V fun r V' => ∃ x : Sl, r = treV x ∧ G x V' := (refCopyT_ok h hl).mono fun _ V' ⟨x, hr, hO⟩ => ⟨x, hr, hG x V' hO⟩
theorem copyJ2 {s : Sl} {t : Tre} {V V2 : View} {G : Sl → View → Prop} (h : SlR V s t) (hl : t.length ≤ 1000 ∧ ∀ n ∈ t, LightN n) (h2 : V.Le V2) (hG : ∀ y U V', OwnT V U y t → U.Le V' → V2.Le V' → Dj V V2 U → G y V') :
    CallV Tryd.prog 17 ⟨[treV s]⟩ V2 fun r V' => ∃ y : Sl, r = treV y ∧ G y V' := by
  refine (CallV.frameG (K := fun r V' => ∃ y : Sl, r = treV y ∧ OwnT V V' y t) h2 ((refCopyT_ok h hl).mono fun r V' ⟨y, h1, h2⟩ => ⟨⟨y, h1, h2⟩, h2.le⟩)).mono ?_
  rintro r V3 ⟨U, ⟨y, rfl, hO⟩, _, hU, h23, hno⟩
  exact ⟨y, rfl, hG y U V3 hO hU h23 hno⟩
theorem copyJ3 {s : Sl} {t : Tre} {V V2 : View} {k : Nat} {G : Sl → View → Prop} (h : SlR V s t) (hl : t.length ≤ 1000 ∧ ∀ n ∈ t, LightN n) (hk : k < t.length) (h2 : V.Le V2) (hG : ∀ x y U V' cs ds, CopX V U x y k t cs ds → U.Le V' → V2.Le V' → Dj V V2 U → G x V') :
    CallV Tryd.prog 17 ⟨[treV s]⟩ V2 fun r V' => ∃ y : Sl, r = treV y ∧ G y V' := by
  refine (CallV.frameG (K := fun r V' => ∃ (x y : Sl) (cs ds : List Value), r = treV x ∧ CopX V V' x y k t cs ds) h2 ((refCopyX_ok hk h hl).mono fun r V' ⟨x, y, cs, ds, h1, h2⟩ => ⟨⟨x, y, cs, ds, h1, h2⟩, h2.vle⟩)).mono ?_
  rintro r V3 ⟨U, ⟨x, y, cs, ds, rfl, hO⟩, _, hU, h23, hno⟩
  exact ⟨x, rfl, hG x y U V3 cs ds hO hU h23 hno⟩
theorem Dj.of {V A A' B : View} (h : Dj V A B) (hA : A'.Le A) : Dj V A' B := fun i o hv ha => h i o hv (hA.see _ _ ha)
/-- Three copies, apart from one another. -/
structure Three (V V' : View) (u v w : Sl) (t : Tre) (k : Nat) : Prop where
  ex : ∃ (Uu Uv Uw : View) (y : Sl) (cs ds : List Value), OwnT V Uu u t ∧ OwnT V Uv v t ∧ CopX V Uw w y k t cs ds ∧ Uu.Le V' ∧ Uv.Le V' ∧ Uw.Le V' ∧ Dj V Uu Uv ∧ Dj V Uu Uw ∧ Dj V Uv Uw
theorem modN (a : Int) {n : Nat} (h0 : 0 < n) (h1 : n ≤ 40) : IntKind.u64.wrap (n : Int) ≠ 0 ∧ ∃ m : Nat, Int.tmod (IntKind.u64.wrap a) (IntKind.u64.wrap (n : Int)) = m ∧ m < n := by
  have e : IntKind.u64.wrap (n : Int) = n := wrap_u64_id (by omega) (by omega)
  have hw := wrap_u64_nn a
  rw [e]
  have m0 := Int.tmod_nonneg (n : Int) hw
  have m1 := Int.tmod_lt_of_pos (IntKind.u64.wrap a) (show (0 : Int) < (n : Int) by omega)
  exact ⟨by omega, (Int.tmod (IntKind.u64.wrap a) (n : Int)).toNat, by omega, by omega⟩
theorem set_same_iff {t : Tre} {k : Nat} (hk : k < t.length) (n : Nod) : t = t.set k n ↔ n = t.getD k default := by
  constructor
  · intro h
    have := congrArg (fun l : Tre => l[k]?) h
    simp only [List.getElem?_set_self hk] at this
    rw [List.getElem?_eq_getElem hk] at this
    rw [getD_at hk]
    exact (Option.some.inj this).symm
  · rintro rfl
    rw [getD_at hk]; exact (List.set_getElem_self _).symm
theorem set_beq {t : Tre} {k : Nat} (hk : k < t.length) {n : Nod} {b : Bool} (h : n = t.getD k default ↔ b = true) : (decide (t = t.set k n) == b) = true ∧ (decide (t.set k n = t) == b) = true := by
  have h1 := set_same_iff hk n
  have e1 : decide (t = t.set k n) = b := by
    rw [Bool.eq_iff_iff, decide_eq_true_eq, h1, h]
  have e2 : decide (t.set k n = t) = b := by
    rw [Bool.eq_iff_iff, decide_eq_true_eq, eq_comm, h1, h]
  rw [e1, e2]
  exact ⟨beq_self_eq_true b, beq_self_eq_true b⟩
/-- The last of the Seqs turned. -/
def lastX (l : List Int) (a : Int) : List Int := if 0 < l.length then l.set (l.length - 1) (bitsI .xor .i64 (l.getD (l.length - 1) 0) a) else l
theorem lastX_same {l : List Int} {a : Int} (ha : inI .i64 a) (hl : ∀ n ∈ l, inI .i64 n) : lastX l a = l ↔ (!(decide (0 < l.length) && !decide (a = 0))) = true := by
  unfold lastX
  by_cases h0 : 0 < l.length
  · rw [if_pos h0, decide_eq_true h0]
    have hg : l.getD (l.length - 1) 0 = l[l.length - 1] := by rw [List.getD_eq_getElem?_getD, List.getElem?_eq_getElem (by omega)]; rfl
    have hx := xor_same (a := l[l.length - 1]) (b := a) (hl _ (List.getElem_mem _)) ha
    rw [hg]
    have : (!(true && !decide (a = 0))) = decide (a = 0) := by cases decide (a = 0) <;> rfl
    rw [this, decide_eq_true_eq, ← hx]
    constructor
    · intro h
      have := congrArg (fun m : List Int => m[l.length - 1]?) h
      simp only [List.getElem?_set_self (show l.length - 1 < l.length by omega)] at this
      rw [List.getElem?_eq_getElem (show l.length - 1 < l.length by omega)] at this
      exact Option.some.inj this
    · intro h; rw [h]; exact List.set_getElem_self _
  · rw [if_neg h0, decide_eq_false h0]; simp
/-! ### Light, to the number -/
def light13F (l : List Ent) : Int := if 60 < l.length ∨ 1000 < l.foldl (fun (x : Int) (e : Ent) => IntKind.wrap .i64 (x + e.name.size)) 0 then 1 else 0
def light14F (n : Nod) : Int := if 60 < n.seqs.length then 1 else light13F n.ents
def light15F (t : Tre) : Int := if 40 < t.length then 1 else t.foldl (fun (x : Int) (n : Nod) => x + light14F n) 0
theorem foldl_take {α β : Type} (f : β → α → β) (b : β) (l : List α) {i : Nat} (hi : i < l.length) : (l.take (i + 1)).foldl f b = f ((l.take i).foldl f b) l[i] := by
  rw [List.take_add_one, List.getElem?_eq_getElem hi, List.foldl_append]; rfl
theorem light13F_01 (l : List Ent) : light13F l = 0 ∨ light13F l = 1 := by unfold light13F; split <;> simp
theorem light14F_01 (n : Nod) : light14F n = 0 ∨ light14F n = 1 := by
  unfold light14F; split
  · simp
  · exact light13F_01 _
theorem light13x_ok {s : Sl} {l : List Ent} {V : View} (h : SlR V s l) : CallV Tryd.prog 57 ⟨[.slice s.a s.n s.c]⟩ V fun r V' => r = .int .i64 (light13F l) ∧ V' = V := by
  refine f57_x ?_
  unfold f57_n
  have hn := h.n; have hm := h.lim
  refine loop2 (k := .int .i64) (l := .int .i64) (fun (x : Int) (j : Int) V' => V' = V ∧ ∃ i : Nat, j = i ∧ i ≤ l.length ∧ x = (l.take i).foldl (fun (x : Int) (e : Ent) => IntKind.wrap .i64 (x + e.name.size)) 0) (fun _ (j : Int) _ => s.n - j.toNat) ⟨rfl, 0, rfl, by omega, rfl⟩ ?_
  rintro (x : Int) (j : Int) V' ⟨rfl, i, rfl, hi, rfl⟩
  refine br_intro (fun hlt => ?_) (fun hge => ?_)
  · have hlt : i < l.length := by have := of_decide_eq_true hlt; omega
    obtain ⟨ad, ha, hcell, _, _⟩ := h.entN hlt
    have hw : IntKind.wrap .i64 ((i : Int) + 1) = (i : Int) + 1 := wrap_of_in (inI64 (by omega) (by omega))
    refine ⟨by omega, by omega, ad, ha, _, _, hcell, fun _ => ?_⟩
    rw [hw]
    refine ⟨⟨rfl, i + 1, by omega, by omega, ?_⟩, by omega⟩
    rw [foldl_take _ _ _ hlt, getD_at hlt]
  · have hge : i = l.length := by have := of_decide_eq_false hge; omega
    subst hge
    rw [List.take_length]
    unfold light13F
    refine br_intro (fun hc => ⟨?_, rfl⟩) (fun hc => ⟨?_, rfl⟩)
    · rw [if_pos]
      by_cases h6 : (60 : Int) < (s.n : Int)
      · left; omega
      · rw [decide_eq_false h6] at hc
        right; exact of_decide_eq_true hc
    · rw [if_neg]
      by_cases h6 : (60 : Int) < (s.n : Int)
      · rw [decide_eq_true h6] at hc; cases hc
      · rw [decide_eq_false h6] at hc
        have := of_decide_eq_false hc
        rintro (h9 | h9)
        · omega
        · exact this h9
theorem light14x_ok {n : Nod} {s e : Sl} {V : View} (h : NodR V s e n) : CallV Tryd.prog 30 ⟨[nodV n s e]⟩ V fun r V' => r = .int .i64 (light14F n) ∧ V' = V := by
  refine f30_x ?_
  unfold f30_n
  have hn := h.seqs.n
  unfold light14F
  refine fun _ => br_intro (fun hb => ⟨?_, rfl⟩) (fun hb => (light13x_ok h.ents).mono ?_)
  · rw [if_pos (by have := of_decide_eq_true hb; omega)]
  · rintro r V' ⟨rfl, rfl⟩
    exact ⟨_, rfl, by rw [if_neg (by have := of_decide_eq_false hb; omega)], rfl⟩
theorem light15_sum : ∀ (t : Tre) (k : Nat), k ≤ t.length → 0 ≤ (t.take k).foldl (fun (x : Int) (n : Nod) => x + light14F n) 0 ∧ (t.take k).foldl (fun (x : Int) (n : Nod) => x + light14F n) 0 ≤ k ∧ ((t.take k).foldl (fun (x : Int) (n : Nod) => x + light14F n) 0 = 0 → ∀ n ∈ t.take k, light14F n = 0)
  | t, 0, _ => ⟨by simp, by simp, fun _ n hn => by simp at hn⟩
  | t, k + 1, hk => by
    obtain ⟨h1, h2, h3⟩ := light15_sum t k (by omega)
    have h4 := light14F_01 t[k]
    rw [foldl_take _ _ _ (by omega)]
    refine ⟨by omega, by omega, fun h0 n hn => ?_⟩
    rw [List.take_add_one, List.getElem?_eq_getElem (by omega)] at hn
    rcases List.mem_append.1 hn with hn | hn
    · exact h3 (by omega) n hn
    · simp at hn; subst hn; omega
theorem light15F_facts (t : Tre) : 0 ≤ light15F t ∧ (light15F t = 0 → LightT t) := by
  unfold light15F
  split
  · exact ⟨by decide, fun h => absurd h (by decide)⟩
  · rename_i h40
    obtain ⟨h1, h2, h3⟩ := light15_sum t t.length (Nat.le_refl _)
    rw [List.take_length] at h1 h2 h3
    refine ⟨h1, fun h0 => ⟨by omega, fun n hn => ?_⟩⟩
    have h4 := h3 h0 n hn
    unfold light14F at h4
    split at h4
    · cases h4
    · rename_i h5
      unfold light13F at h4
      split at h4
      · cases h4
      · rename_i h6
        constructor
        · omega
        · apply Classical.byContradiction
          intro h7; exact h6 (.inl (by omega))
theorem light15x_ok {s : Sl} {t : Tre} {V : View} (h : SlR V s t) : CallV Tryd.prog 10 ⟨[treV s]⟩ V fun r V' => r = .int .i64 (light15F t) ∧ V' = V := by
  refine f10_x ?_
  unfold f10_n
  have hn := h.n
  unfold light15F
  refine fun _ => br_intro (fun h40 => ⟨?_, rfl⟩) (fun h40 => ?_)
  · rw [if_pos (by have := of_decide_eq_true h40; omega)]
  have h40 := of_decide_eq_false h40
  rw [if_neg (by omega)]
  refine loop2 (k := .int .i64) (l := .int .i64) (fun (x : Int) (j : Int) V' => V' = V ∧ ∃ i : Nat, j = i ∧ i ≤ t.length ∧ x = (t.take i).foldl (fun (x : Int) (n : Nod) => x + light14F n) 0) (fun _ (j : Int) _ => s.n - j.toNat) ⟨rfl, 0, rfl, by omega, rfl⟩ ?_
  rintro (x : Int) (j : Int) V' ⟨rfl, i, rfl, hi, rfl⟩
  refine br_intro (fun hlt => ?_) (fun hge => ?_)
  · have hlt : i < t.length := by have := of_decide_eq_true hlt; omega
    obtain ⟨ad, sq, en, ha, hc, hN⟩ := h.nodN hlt
    refine ⟨by omega, by omega, ad, ha, _, _, _, sq, en, hc, fun _ => (light14x_ok hN).mono ?_⟩
    rintro r V1 ⟨rfl, rfl⟩
    have h1 := light15_sum t i (by omega)
    have h2 := light14F_01 (t.getD i default)
    refine ⟨_, rfl, inI64 (by omega) (by omega), inI64 (by omega) (by omega), ⟨rfl, i + 1, by omega, by omega, ?_⟩, by omega⟩
    rw [foldl_take _ _ _ hlt, getD_at hlt]
  · have hge : i = t.length := by have := of_decide_eq_false hge; omega
    subst hge
    rw [List.take_length]; exact ⟨rfl, rfl⟩
set_option maxRecDepth 100000 in
theorem dirApart_ok {s : Sl} {t : Tre} {a b : Int} {V : View} (h : SlR V s t) (hin : inI .i64 b) (hg : Glo V) : CallV Tryd.prog 5 ⟨[treV s, .int .i64 a, .int .i64 b]⟩ V fun r V' => r = .bool true ∧ V.Le V' := by
  refine f5_x ?_
  unfold f5_n
  have hn := h.n
  have hF := light15F_facts t
  refine fun _ => joinP_cut (fun q V' => q.1 = (decide (0 < light15F t) || decide (t.length = 0)) ∧ V' = V) ((light15x_ok h).mono ?_) ?_
  · rintro r V1 ⟨rfl, rfl⟩
    have e1 : decide ((s.n : Int) = 0) = decide (t.length = 0) := decide_eq_decide.2 (by omega)
    rw [e1]
    refine ⟨_, rfl, br_intro (fun hc => ⟨?_, rfl⟩) (fun hc => (sameT_ok h h).mono ?_)⟩
    · cases h1 : decide (0 < light15F t) <;> rw [h1] at hc <;> simp_all
    · rintro r V2 ⟨rfl, rfl⟩
      refine ⟨_, rfl, ?_, rfl⟩
      have : (decide (0 < light15F t) || decide (t.length = 0)) = false := by
        cases h1 : decide (0 < light15F t) <;> rw [h1] at hc <;> simp_all
      rw [this]; simp
  rintro ⟨q, ⟨⟩⟩ V1 ⟨hq, hV⟩
  simp only at hq hV
  subst hq hV
  dsimp only [unc]
  refine br_intro (fun hb => ?_) (fun hb => ?_)
  · refine joinP_cut (fun g V' => g.1 = true ∧ V1.Le V') ((light15x_ok h).mono ?_) ?_
    · rintro r V2 ⟨rfl, rfl⟩
      refine ⟨_, rfl, br_intro (fun _ => awake15J (View.Le.refl _) hg fun V' hV => ⟨rfl, hV⟩) (fun h0 => br_intro (fun _ => (sameT_ok h h).mono ?_) (fun h1 => ?_))⟩
      · rintro r V3 ⟨rfl, rfl⟩
        exact ⟨_, rfl, br_intro (fun _ => awake15J (View.Le.refl _) hg fun V' hV => ⟨rfl, hV⟩) (fun hf => absurd hf (by simp))⟩
      · exfalso
        have h1 := of_decide_eq_false h1
        rw [h0, Bool.false_or] at hb
        have := of_decide_eq_true hb
        omega
    · rintro ⟨g, ⟨⟩⟩ V2 ⟨hg1, hV⟩
      simp only at hg1
      subst hg1
      exact ⟨rfl, hV⟩
  rw [Bool.or_eq_false_iff] at hb
  have hL : LightT t := hF.2 (by have := of_decide_eq_false hb.1; omega)
  have h0 : 0 < t.length := by have := of_decide_eq_false hb.2; omega
  have hl := light_lightN hL
  obtain ⟨hw, k, hk, hkt⟩ := modN a h0 hL.1
  rw [← hn] at hw hk
  rw [hk]
  obtain ⟨CUT, hCUT⟩ : ∃ C : Ty [K.sl, K.sl, K.sl] → View → Prop, ∀ q V', C q V' ↔ Three V1 V' q.1 q.2.1 q.2.2.1 t k ∧ V1.Le V' := ⟨_, fun _ _ => Iff.rfl⟩
  refine ⟨hw, inI64 (by omega) (by have := hL.1; omega), joinP_cut CUT ⟨trivial, V1, View.Le.refl _, ?_⟩ ?_⟩
  · repeat' (first
      | (intro (_ : Nat))
      | (refine copyJ3 h hl hkt (hA.le.trans hB) fun w y Uw V4 cs ds hw3 hUw hC hdw => ?_)
      | (refine copyJ2 h hl hA.le fun v Uv V3 hv2 hUv hB hdv => ?_)
      | (refine copyJ1 h hl fun u V2 hA => ?_)
      | exact (hCUT _ _).2 ⟨⟨_, Uv, Uw, y, cs, ds, hA, hv2, hw3, hB.trans hC, hUv.trans hC, hUw, hdv, hdw.of hB, hdw.of hUv⟩, (hA.le.trans hB).trans hC⟩
      | exact (hA.le.trans hB).trans hC
      | exact hA.le.trans hB
      | exact hA.le
      | exact View.Le.refl _
      | apply And.intro)
  rintro ⟨u, v, w, ⟨⟩⟩ V2 hcut
  obtain ⟨⟨Uu, Uv, Uw, y, cs, ds, hu, hv, hw, hUu, hUv, hUw, duv, duw, dvw⟩, hV2⟩ := (hCUT _ _).1 hcut
  simp only at hu hv hw
  dsimp only [unc]
  have hun := hu.slR.n
  have hvn := hv.slR.n
  have hwn := (hw.slR hkt).n
  -- the first
  obtain ⟨au, sqU, enU, hau, hcu, hNu, _, hsetu, _, _⟩ := hu.setC hkt
  obtain ⟨cu1, hu'⟩ := hsetu (bitsI .xor .i64 (t.getD k default).size b) _ (xor_in _ _) rfl
  obtain ⟨Lu1, Lu2, Lu3⟩ := lift_sets hUu cu1 [.int .i64 (bitsI .xor .i64 (t.getD k default).size b)]
  have bu : ((au.add (k * 5)).add 2).block = au.block := by rw [Addr.add_block, Addr.add_block]
  rw [bu] at Lu3
  have nu : V1.see au.block = none := hu.blk hau
  have su : ∃ o, Uu.see au.block = some o := by
    obtain ⟨_, c, e, f, h1, _⟩ := cu1
    rw [bu] at h1; exact ⟨_, h1⟩
  obtain ⟨ou, su⟩ := su
  have hUv1 := Lu3 Uv hUv (duv _ _ nu su)
  have hUw1 := Lu3 Uw hUw (duw _ _ nu su)
  have hV1a := Lu3 V1 hV2 nu
  -- the second
  obtain ⟨av, sqV, enV, hav, hcv, hNv, hsetv, _, _, _⟩ := hv.setC hkt
  obtain ⟨cv1, hv'⟩ := hsetv (bitsI .xor .i64 (t.getD k default).links b) _ (xor_in _ _) rfl
  obtain ⟨Lv1, Lv2, Lv3⟩ := lift_sets hUv1 cv1 [.int .i64 (bitsI .xor .i64 (t.getD k default).links b)]
  have bv : ((av.add (k * 5)).add 1).block = av.block := by rw [Addr.add_block, Addr.add_block]
  rw [bv] at Lv3
  have nv : V1.see av.block = none := hv.blk hav
  have sv : ∃ o, Uv.see av.block = some o := by
    obtain ⟨_, c, e, f, h1, _⟩ := cv1
    rw [bv] at h1; exact ⟨_, h1⟩
  obtain ⟨ov, sv⟩ := sv
  have huv : Uu.see av.block = none := duv.symm _ _ nv sv
  have hne : av.block ≠ au.block := fun e => by rw [e, su] at huv; cases huv
  have hUu2 := Lv3 _ Lu2 (by rw [sets_see_ne (by rw [bu]; exact hne)]; exact huv)
  have hUw2 := Lv3 Uw hUw1 (dvw _ _ nv sv)
  have hV1b := Lv3 V1 hV1a nv
  -- the third
  obtain ⟨aw, haw, hcw⟩ := hw.cell hkt
  refine fun _ _ _ => ⟨by omega, by omega, au, hau, _, hUu.cell (cellsAt_nth hcu 2 rfl), by omega, by omega, au, hau, Lu1, by omega, by omega, av, hav, _, hUv1.cell (cellsAt_nth hcv 1 rfl), by omega, by omega, av, hav, Lv1, by omega, by omega, aw, haw, y, hUw2.cell hcw, ?_⟩
  have hyS : SlR Uw y (t.getD k default).seqs := (hw.row.mono (View.minus_le _ _)).slR (W := Uw) hw.ints.rep (View.Le.refl _)
  have hyn := hyS.n
  have h60 := hL.2 _ (getD_mem hkt)
  have hqin : ∀ n ∈ (t.getD k default).seqs, inI .i64 n := by
    intro n hn
    obtain ⟨i, hi, rfl⟩ := List.getElem_of_mem hn
    obtain ⟨_, _, _, _, _, h5⟩ := hyS.get i hi
    exact h5
  refine joinP_cut (fun q V' => q.1 = (decide (0 < (t.getD k default).seqs.length) && !decide (b = 0)) ∧ (Uu.sets ((au.add (k * 5)).add 2) [.int .i64 (bitsI .xor .i64 (t.getD k default).size b)]).Le V' ∧ (Uv.sets ((av.add (k * 5)).add 1) [.int .i64 (bitsI .xor .i64 (t.getD k default).links b)]).Le V' ∧ V1.Le V' ∧ SlR V' w (t.set k { t.getD k default with seqs := lastX (t.getD k default).seqs b })) (br_intro (fun hp => ?_) (fun hp => ?_)) ?_
  · have hp : 0 < y.n := by have := of_decide_eq_true hp; omega
    have hi : (t.getD k default).seqs.length - 1 < (t.getD k default).seqs.length := by omega
    have hlx : lastX (t.getD k default).seqs b = (t.getD k default).seqs.set ((t.getD k default).seqs.length - 1) (bitsI .xor .i64 ((t.getD k default).seqs.getD ((t.getD k default).seqs.length - 1) 0) b) := by unfold lastX; rw [if_pos (by omega)]
    obtain ⟨ay, hay, hcy, _⟩ := hyS.intN hi
    obtain ⟨ay', hay', ny, cy, hw'⟩ := hw.set hkt hi (xor_in ((t.getD k default).seqs.getD ((t.getD k default).seqs.length - 1) 0) b)
    rw [hay] at hay'
    cases hay'
    obtain ⟨Lw1, Lw2, Lw3⟩ := lift_sets hUw2 cy [.int .i64 (bitsI .xor .i64 ((t.getD k default).seqs.getD ((t.getD k default).seqs.length - 1) 0) b)]
    rw [Addr.add_block] at Lw3
    have sy : ∃ o, Uw.see ay.block = some o := by
      obtain ⟨_, c, e, f, h1, _⟩ := cy
      rw [Addr.add_block] at h1; exact ⟨_, h1⟩
    obtain ⟨oy, sy⟩ := sy
    have e1 : ((y.n : Int) - 1).toNat = (t.getD k default).seqs.length - 1 := by omega
    have e2 : ((((t.getD k default).seqs.length - 1 : Nat) : Int)).toNat = (t.getD k default).seqs.length - 1 := by omega
    rw [hlx, e1]
    refine ⟨by omega, by omega, aw, haw, y, hUw2.cell hcw, inI64 (by omega) (by omega), by omega, by omega, ay, hay, _, hUw2.cell hcy, by omega, by omega, ay, hay, Lw1, ?_, ?_, ?_, ?_, hw'.mono Lw2⟩
    · rw [decide_eq_true (show 0 < (t.getD k default).seqs.length by omega)]; rfl
    · refine Lw3 _ hUu2 ?_
      have hn1 := duw.symm _ _ ny sy
      rw [sets_see_ne (by rw [bu]; exact fun e => by rw [e, su] at hn1; cases hn1)]; exact hn1
    · refine Lw3 _ Lv2 ?_
      have hn1 := dvw.symm _ _ ny sy
      rw [sets_see_ne (by rw [bv]; exact fun e => by rw [e, sv] at hn1; cases hn1)]; exact hn1
    · exact Lw3 _ hV1b ny
  · have hp : (t.getD k default).seqs.length = 0 := by have := of_decide_eq_false hp; omega
    have hlx : lastX (t.getD k default).seqs b = (t.getD k default).seqs := by unfold lastX; rw [if_neg (by omega)]
    refine ⟨by rw [decide_eq_false (by omega)]; rfl, hUu2, Lv2, hV1b, ?_⟩
    rw [hlx]
    have e : t.set k { t.getD k default with seqs := (t.getD k default).seqs } = t := by
      show t.set k (t.getD k default) = t
      rw [getD_at hkt]; exact List.set_getElem_self _
    rw [e]
    exact (hw.slR hkt).mono hUw2
  rintro ⟨q, ⟨⟩⟩ W3 ⟨hq, hu3, hv3, hV3, hw3⟩
  simp only at hq
  subst hq
  dsimp only [unc]
  have b1 := (set_beq hkt (n := { t.getD k default with size := bitsI .xor .i64 (t.getD k default).size b }) (b := decide (b = 0)) (by
    rw [decide_eq_true_eq, ← xor_same hNu.size hin]
    constructor
    · intro e; exact congrArg Nod.size e
    · intro e; rw [e])).1
  have b2 := (set_beq hkt (n := { t.getD k default with links := bitsI .xor .i64 (t.getD k default).links b }) (b := decide (b = 0)) (by
    rw [decide_eq_true_eq, ← xor_same hNu.links hin]
    constructor
    · intro e; exact congrArg Nod.links e
    · intro e; rw [e])).2
  have b3 := (set_beq hkt (n := { t.getD k default with seqs := lastX (t.getD k default).seqs b }) (b := !(decide (0 < (t.getD k default).seqs.length) && !decide (b = 0))) (by
    rw [← lastX_same hin hqin]
    constructor
    · intro e; exact congrArg Nod.seqs e
    · intro e; rw [e])).1
  refine joinP_cut (fun g V' => g.1 = true ∧ V1.Le V') ((sameT_ok (h.mono hV3) (hu'.slR.mono hu3)).mono ?_) ?_
  · rintro r W4 ⟨rfl, rfl⟩
    refine ⟨_, rfl, br_intro (fun _ => (sameT_ok (hv'.slR.mono hv3) (h.mono hV3)).mono ?_) (fun hf => absurd (b1.symm.trans hf) (by decide))⟩
    rintro r W5 ⟨rfl, rfl⟩
    refine ⟨_, rfl, br_intro (fun _ => (sameT_ok (h.mono hV3) hw3).mono ?_) (fun hf => absurd (b2.symm.trans hf) (by decide))⟩
    rintro r W6 ⟨rfl, rfl⟩
    exact ⟨_, rfl, br_intro (fun _ => awake15J hV3 (hg.mono hV3) fun V' hV => ⟨rfl, hV⟩) (fun hf => absurd (b3.symm.trans hf) (by decide))⟩
  · rintro ⟨g, ⟨⟩⟩ W4 ⟨hg1, hV⟩
    simp only at hg1
    subst hg1
    exact ⟨rfl, hV⟩
end Go.Proofs.YtpalkdmngckcoaaDoor

/- How rows and trees come in. -/
namespace Go.Proofs.YtpalkdmngckcoaaDoor
open Go Go.RowKit Go.ChangeShapes Go.WideShapes
section
variable {H : Type} {enc : TypeId × Value → H} {P : Program} {w : World} {base b0 : Nat} {sp : Nat → Bool} {held : Bool} {r : Go.Reach} {v : Value} {d : DataW H} {ps : List MemPlace}
theorem in_slice {α : Type} [Rep α] {t e : TypeId} (ht : P.underlying t = some (.slice e)) (hT : TrodRep P (List α) t) (hv : Value.okWide P w r b0 t v) (hd : DataW.Trod enc P w base sp held t v d ps) :
    ∃ (s : Sl) (l : List α), v = .slice s.a s.n s.c ∧ SlR (View.all w) s l := by
  obtain ⟨a, len, cap, rfl⟩ := okWide_slice ht hv
  obtain ⟨fuel, hf⟩ := hd
  obtain ⟨l, s, he, hs⟩ := hT.of hf
  simp [Value.cells] at he
  exact ⟨s, l, by rw [he.1, he.2.1, he.2.2], hs⟩
theorem in_tree {α : Type} [Rep α] {t te : TypeId} {fs : Array Field} (ht : P.underlying t = some (.struct fs)) (h0 : fieldX P t 0 = some (0, te)) (hc : P.cellsOf t = 1) (hce : P.cellsOf te = 1) (hT : TrodRep P (List α) te) (hv : Value.okWide P w r b0 t v) (hd : DataW.Trod enc P w base sp held t v d ps) :
    ∃ (s : Sl) (l : List α), v = .agg ⟨[.slice s.a s.n s.c]⟩ ∧ SlR (View.all w) s l := by
  obtain ⟨cs, rfl, hsz⟩ := okWide_struct ht hv
  obtain ⟨fuel, hf⟩ := hd
  obtain ⟨hl, n, y, g⟩ := trod_field h0 hf
  obtain ⟨cs⟩ := cs
  rw [hc] at hsz hl
  match cs, hsz with
  | [c], _ =>
    rw [hce] at g
    obtain ⟨l, s, he, hs⟩ := hT.of g
    simp [Value.cells] at he
    exact ⟨s, l, by rw [he], hs⟩
end
end Go.Proofs.YtpalkdmngckcoaaDoor
