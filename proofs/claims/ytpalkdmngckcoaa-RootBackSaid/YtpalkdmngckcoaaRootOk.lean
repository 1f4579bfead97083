/- Contracts of package root: trees to bytes and back. -/
import Derived.Test.YtpalkdmngckcoaaRootLaw
import Derived.Test.YtpalkdmngckcoaaDirOk
namespace Go.Proofs.Ytpalkdmngckcoaa
open Go
/-- As app1, what the reader's own block holds left out. -/
theorem app2 {α : Type} [Rep α] {V V0 : View} {p r : Nat} {st : Stt} {x : Sl} {e : TypeId} {bytes : Nat} {zero : List Value} {cs vs : List Value} {l : List α} {d : α} {C : Sl → View → Prop} {ob : Obj} {te : TypeId}
    (hz : zero.length = Rep.sz α) (hb : Buf V x e (Rep.sz α) cs) (hr : repL ((V.minus x).hide p) cs l) (hd : Rep.rep ((V.minus x).hide p) vs d) (hR : Rd (V.minus x) p st) (hle : V0.Le ((V.minus x).hide p)) (hnew : V.size ≤ r) (hob : ob = .cells ⟨vs⟩ te (0, 0))
    (hm : (x.n + 1) * bytes ≤ 140737488355328) (hm2 : x.n + 1 ≤ 140737488355328)
    (hC : ∀ s V' cs', Buf V' s e (Rep.sz α) cs' → repL ((V'.minus s).hide p) cs' (l ++ [d]) → Rd (V'.minus s) p st → V0.Le ((V'.minus s).hide p) → C s V') :
    apV (V.put r ob) e (Rep.sz α) bytes zero x (.slice (some ⟨r, 0, none⟩) 1 1) C := by
  subst hob
  have hfr : V.see r = none := View.see_none_of_ge hnew
  have hvl : vs.length = Rep.sz α := Rep.len hd
  refine apV_buf hz (hb.put hfr) (src := vs) (m := 1) ⟨rfl, rowAt_new (View.see_put_same _ _ _) (by rw [Nat.one_mul]; exact hvl)⟩ (by rw [Nat.one_mul]; exact hvl) (Rep.one hd) hm hm2 fun s V' hb' _ hle' => ?_
  have h1 : (V.minus x).Le (V'.minus s) := (put_minus_le hfr).trans hle'
  exact hC s V' _ hb' ((hr.mono (hide_mono h1 p)).snoc (Rep.mono (hide_mono h1 p) hd)) (hR.mono h1) (hle.trans (hide_mono h1 p))
/-- What Parse answers. -/
def ParseR (V : View) (o : Option Tre) (x : Sl) (e : Int) : Prop := match o with
  | none => x = ⟨none, 0, 0⟩ ∧ e = 5
  | some t => SlR V x t ∧ e = 0
theorem parse_ok {s : Sl} {l : List UInt8} {V : View} (h : SlR V s l) (hl : l.length ≤ 140737488350000) : CallV Try.prog 9 ⟨[.slice s.a s.n s.c]⟩ V fun r V' => ∃ (x : Sl) (e : Int), r = .tuple ⟨[treV x, .int .i64 e]⟩ ∧ ParseR V' (parseT l) x e ∧ V.Le V' := by
  refine f9_x ?_
  unfold f9_n
  refine fun _ => (newReader_ok h hl).mono ?_
  rintro r V1 ⟨p, rfl, hR1, hV1⟩
  refine ⟨_, rfl, fun _ => ?_⟩
  refine loop2 (k := .int .i64) (l := .sl) (fun (x : Int) (s : Sl) V' => ∃ (i : Nat) (cs : List Value), x = i ∧ i ≤ 12 ∧ Buf V' s 55 5 cs ∧ repL ((V'.minus s).hide p) cs (rdTre i (some l)).1 ∧ Rd (V'.minus s) p (rdTre i (some l)).2 ∧ V.Le ((V'.minus s).hide p)) (fun (x : Int) _ _ => 12 - x.toNat) ⟨0, [], rfl, by omega, Buf.nil _ _ _, rfl, hR1, hV1⟩ ?_
  rintro (x : Int) (y : Sl) V2 ⟨i, cs, rfl, hi, hb, hr, hR2, hV2⟩
  have q2 : V.Le V2 := hV2.trans ((View.hide_le _ _).trans (View.minus_le _ _))
  refine br_intro (fun hlt => ?_) (fun hge => ?_)
  · have hlt : i < 12 := by have := of_decide_eq_true hlt; omega
    have hn := hb.n_eq hr
    rw [rdTre_len] at hn
    refine ⟨trivial, V, q2, ((rdNod_ok hR2).besideB hb).mono ?_⟩
    rintro r V3 ⟨U, ⟨sq, en, rfl, hN, hR3, hV3⟩, hU, hb3⟩
    have hV3' : ((V2.minus y).hide p).Le ((V3.minus y).hide p) := hV3.trans (hide_mono hU p)
    have q3 : V.Le V3 := (hV2.trans hV3').trans ((View.hide_le _ _).trans (View.minus_le _ _))
    refine ⟨_, _, _, sq, en, rfl, q3, fun r hr1 => ⟨q3.trans (View.put_le (View.see_none_of_ge hr1)), ?_⟩⟩
    refine app2 (α := Nod) rfl hb3 (hr.mono hV3') (hN.mono (hide_mono hU p)).rep (hR3.mono hU) (hV2.trans hV3') hr1 rfl (by show (y.n + 1) * 72 ≤ _; omega) (by show y.n + 1 ≤ _; omega) ?_
    intro s4 V4 cs4 hb4 hr4 hR4 hV4
    exact ⟨inI64 (by omega) (by omega), ⟨i + 1, cs4, by omega, by omega, hb4, hr4, hR4, hV4⟩, by omega⟩
  · have hge : i = 12 := by have := of_decide_eq_false hge; omega
    subst hge
    have hRd : Rd V2 p (rdTre 12 (some l)).2 := hR2.mono (View.minus_le _ _)
    have hsl : SlR V2 y (rdTre 12 (some l)).1 := hb.slR hr ((View.hide_le _ _).trans (View.minus_le _ _))
    refine (err_ok hRd).mono ?_
    rintro r V3 ⟨rfl, rfl⟩
    refine ⟨_, rfl, ?_⟩
    cases hst : (rdTre 12 (some l)).2 with
    | none =>
      have hP : parseT l = none := by unfold parseT; rw [hst]; simp
      refine br_intro (fun _ => (err_ok hRd).mono ?_) (fun h => absurd h (by simp))
      rintro r V4 ⟨rfl, rfl⟩
      rw [hst]
      exact ⟨_, rfl, ⟨none, 0, 0⟩, 5, rfl, by rw [hP]; exact ⟨rfl, rfl⟩, q2⟩
    | some rest =>
      rw [hst] at hRd
      refine br_intro (fun h => absurd h (by simp)) (fun _ => ?_)
      refine joinP_cut (fun q V' => q.1 = (!decide (rest = [] ∧ mayT (rdTre 12 (some l)).1 = true)) ∧ V3.Le V') ((left_ok hRd).mono ?_) ?_
      · rintro r V4 ⟨rfl, rfl⟩
        refine ⟨_, rfl, br_intro (fun h0 => ⟨?_, View.Le.refl _⟩) (fun h0 => (mayT_ok hsl).mono ?_)⟩
        · have h0 : rest ≠ [] := by
            intro e; rw [e] at h0; exact absurd h0 (by simp)
          rw [decide_eq_false (by rintro ⟨h1, _⟩; exact h0 h1)]; rfl
        · have h0 : rest = [] := by
            have := of_decide_eq_false h0
            exact List.eq_nil_of_length_eq_zero (by omega)
          rintro r V5 ⟨rfl, hV5⟩
          refine ⟨_, rfl, ?_, hV5⟩
          subst h0
          simp
      · rintro ⟨q, ⟨⟩⟩ V4 ⟨h1, hV⟩
        simp only at h1 hV
        subst h1
        dsimp only [unc]
        refine br_intro (fun hb => ⟨⟨none, 0, 0⟩, 5, rfl, ?_, q2.trans hV⟩) (fun hb => ⟨y, 0, rfl, ?_, q2.trans hV⟩)
        · have hb := of_decide_eq_false (not_t hb)
          have hP : parseT l = none := by unfold parseT; rw [hst, if_neg (by rintro ⟨h1, h2⟩; cases h1; exact hb ⟨rfl, h2⟩)]
          rw [hP]; exact ⟨rfl, rfl⟩
        · have hb := of_decide_eq_true (not_f hb)
          have hP : parseT l = some (rdTre 12 (some l)).1 := by unfold parseT; rw [hst, hb.1, if_pos ⟨rfl, hb.2⟩]
          rw [hP]; exact ⟨hsl.mono hV, rfl⟩
/-! ### to bytes -/
theorem encE_len (x : Ent) : (encE x).length ≤ 14 + x.name.size := by
  unfold encE textL
  have h1 := numI_len ((bl x.name).length : Nat)
  have h2 := numI_len x.node
  simp only [List.length_append, bl_len] at *
  omega
theorem encEs_len : ∀ {l : List Ent}, (∀ x ∈ l, x.name.size ≤ 8) → (encEs l).length ≤ 22 * l.length
  | [], _ => by simp [encEs]
  | x :: l, h => by
    have h1 := encEs_len (l := l) fun y hy => h y (by simp [hy])
    have h2 := encE_len x
    have h3 := h x (by simp)
    have e : encEs (x :: l) = encE x ++ encEs l := by simp [encEs]
    rw [e, List.length_append, List.length_cons]; omega
theorem may_names {n : Nod} (h : mayN n = true) : ∀ x ∈ n.ents, x.name.size ≤ 8 := fun _ hx => (mayB_size (mayL_node (mayN_ents h) hx).2.2).2
theorem encN_len {n : Nod} (h : mayN n = true) : (encN n).length ≤ 240 := by
  have h1 := mayN_seqs h
  have h2 := mayL_len (mayN_ents h)
  have h3 := encEs_len (may_names h)
  have h4 := numsL_len n.seqs
  have a := numI_len n.kind
  have b := numI_len n.links
  have c := numI_len n.size
  have d := numI_len (n.ents.length : Nat)
  unfold encN
  split
  · simp only [List.length_append]; omega
  · split
    · simp only [List.length_append]; omega
    · simp; omega
theorem encT_len : ∀ {t : Tre}, (∀ n ∈ t, mayN n = true) → (encT t).length ≤ 240 * t.length
  | [], _ => by simp [encT]
  | n :: t, h => by
    have h1 := encT_len (t := t) fun y hy => h y (by simp [hy])
    have h2 := encN_len (h n (by simp))
    have e : encT (n :: t) = encN n ++ encT t := by simp [encT]
    rw [e, List.length_append, List.length_cons]; omega
theorem encT_take {t : Tre} {i : Nat} (h : i < t.length) : encT (t.take (i + 1)) = encT (t.take i) ++ encN (t.getD i default) := by
  rw [List.take_add_one, List.getElem?_eq_getElem h, getD_at h]
  exact encT_snoc _ _
/-- Numbers in a new block. -/
theorem newInts {V : View} {r : Nat} {l : List Int} (hl : ∀ n ∈ l, inI .i64 n) (hl2 : l.length ≤ 140737488355328) {ob : Obj} (ho : ob = .cells ⟨intsV l⟩ 3 (0, 0)) : SlR (V.put r ob) ⟨some ⟨r, 0, none⟩, l.length, l.length⟩ l :=
  slR_block (W := V.put r ob) (by rw [View.see_put_same, ho]) (rows_int hl) (View.Le.refl _) hl2
/-- A string's bytes in a new block. -/
theorem newBytes {V : View} {r cap : Nat} {b : ByteArray} {more : List Value} {f : Nat × Nat} (hc : b.size ≤ cap) (hm : b.size ≤ 140737488355328) : SlR (V.put r (.cells ⟨bytesV b ++ more⟩ 5 f)) ⟨some ⟨r, 0, none⟩, b.size, cap⟩ (bl b) := by
  refine ⟨(bl_len b).symm, hc, by show b.size ≤ _; omega, fun i hi => ?_⟩
  refine ⟨⟨r, 0, none⟩, [.int .u8 (bl b)[i].toNat], rfl, ?_, rfl⟩
  rw [cellsAt_one]
  show View.cell? _ ((⟨r, 0, none⟩ : Addr).add (i * 1)) = _
  rw [addr0_add]
  refine cell_of_see (View.see_put_same _ _ _) ?_
  have hb : (bytesV b).length = (bl b).length := by simp [bytesV]
  rw [Nat.zero_add, Nat.mul_one, List.getElem?_append_left (by rw [hb]; exact hi)]
  unfold bytesV
  rw [List.getElem?_map, List.getElem?_eq_getElem hi]
  rfl
/-- What Bytes answers. -/
def BytesR (V : View) (g : Bool) (t : Tre) (x : Sl) (e : Int) : Prop := match g with
  | false => x = ⟨none, 0, 0⟩ ∧ e = 1
  | true => SlR V x (encT t) ∧ e = 0
theorem bytes_ok {s : Sl} {t : Tre} {V : View} (h : SlR V s t) : CallV Try.prog 10 ⟨[treV s]⟩ V fun r V' => ∃ (x : Sl) (e : Int), r = .tuple ⟨[.slice x.a x.n x.c, .int .i64 e]⟩ ∧ BytesR V' (mayT t) t x e ∧ V.Le V' := by
  refine f10_x ?_
  unfold f10_n
  refine fun _ => (mayT_ok h).mono ?_
  rintro r V1 ⟨rfl, hV1⟩
  refine ⟨_, rfl, br_intro (fun hb => ⟨⟨none, 0, 0⟩, 1, rfl, by rw [not_t hb]; exact ⟨rfl, rfl⟩, hV1⟩) (fun hb => ?_)⟩
  have hM := not_f hb
  rw [hM]
  have hM' := hM
  unfold mayT at hM'
  simp only [Bool.and_eq_true, decide_eq_true_eq, List.all_eq_true] at hM'
  obtain ⟨⟨⟨⟨h12, hall⟩, _⟩, _⟩, _⟩ := hM'
  have hn := h.n
  refine loop2 (k := .sl) (l := .int .i64) (fun (x : Sl) (j : Int) V' => ∃ i : Nat, j = i ∧ i ≤ 12 ∧ SlR V' x (encT (t.take i)) ∧ V.Le V') (fun _ (j : Int) _ => 12 - j.toNat) ⟨0, rfl, by omega, SlR.nil _ _ _, hV1⟩ ?_
  rintro (x : Sl) (j : Int) V2 ⟨i, rfl, hi, hx, hV2⟩
  refine br_intro (fun hlt => ?_) (fun hge => ?_)
  · have hlt : i < 12 := by have := of_decide_eq_true hlt; omega
    obtain ⟨ad, sq, en, ha, hc, hN⟩ := (h.mono hV2).nodN (i := i) (by omega)
    have hmem : t.getD i default ∈ t := by rw [getD_at (by omega)]; exact List.getElem_mem _
    have hMN := hall _ hmem
    have hlen : (encT (t.take i)).length ≤ 240 * 12 := by
      refine Nat.le_trans (encT_len fun n hn => hall n (List.mem_of_mem_take hn)) (Nat.mul_le_mul_left _ (by simp; omega))
    have hs5 := mayN_seqs hMN
    have he10 := mayL_len (mayN_ents hMN)
    have hnm := may_names hMN
    have htk := encT_take (t := t) (i := i) (by omega)
    refine ⟨by omega, by omega, ad, ha, _, _, _, sq, en, hc, fun _ => fun r hr => ?_⟩
    generalize t.getD i default = nd at *
    generalize hL : encT (t.take i) = L at *
    have hfr := View.see_none_of_ge hr
    have hp := View.put_le (o := .cells ⟨putL [.int .i64 0] 0 [.int .i64 nd.kind]⟩ 3 (0, 0)) hfr
    refine (numbers8_ok (hx.mono hp) (newInts (l := [nd.kind]) (by simpa using hN.kind) (by simp) rfl) (by show L.length + 7 * 1 ≤ _; omega)).mono ?_
    rintro r V3 ⟨y, rfl, hV3, hy⟩
    rw [numsL_one] at hy
    have hV23 := hp.trans hV3
    have k1 := numI_len nd.kind
    refine ⟨y, rfl, ?_⟩
    refine joinP_cut (fun q V' => SlR V' q.1 (L ++ encN nd) ∧ V3.Le V') (br_intro (fun h1 => ?_) (fun h1 => ?_)) ?_
    · have h1 : nd.kind = 1 := of_decide_eq_true h1
      rw [encN_1 h1]
      rw [h1] at hy
      have k2 := numI_len 1
      refine ⟨trivial, V3, View.Le.refl _, fun r2 hr2 => ?_⟩
      have hp2 := View.put_le (o := .cells ⟨putL (putL [.int .i64 0, .int .i64 0] 0 [.int .i64 nd.links]) 1 [.int .i64 nd.size]⟩ 3 (0, 0)) (View.see_none_of_ge hr2)
      refine ⟨hp2, (numbers8_ok (hy.mono hp2) (newInts (l := [nd.links, nd.size]) (by intro n hn; simp at hn; rcases hn with rfl | rfl; exact hN.links; exact hN.size) (by simp) rfl) (by show (L ++ numI 1).length + 7 * 2 ≤ _; rw [List.length_append]; omega)).mono ?_⟩
      rintro r V4 ⟨z, rfl, hV4, hz⟩
      have k3 := numsL_len [nd.links, nd.size]
      refine ⟨z, rfl, hp2.trans hV4, (numbers8_ok hz (hN.seqs.mono (hV23.trans (hp2.trans hV4))) (by simp only [List.length_append, List.length_cons, List.length_nil] at *; omega)).mono ?_⟩
      rintro r V5 ⟨w, rfl, hV5, hw⟩
      refine ⟨w, rfl, ?_, (hp2.trans hV4).trans hV5⟩
      have e : numsL [nd.links, nd.size] = numI nd.links ++ numI nd.size := by simp [numsL]
      rw [e] at hw
      simpa [List.append_assoc] using hw
    · have h1 : ¬ nd.kind = 1 := of_decide_eq_false h1
      refine joinP_cut (fun q V' => SlR V' q.1 (L ++ encN nd) ∧ V3.Le V') (br_intro (fun h2 => ?_) (fun h2 => ⟨?_, View.Le.refl _⟩)) ?_
      · have h2 : nd.kind = 2 := of_decide_eq_true h2
        rw [encN_2 h2]
        rw [h2] at hy
        have k2 := numI_len 2
        have k3 := numI_len (nd.ents.length : Nat)
        have hen := hN.ents.n
        rw [hen]
        intro r2 hr2
        have hp2 := View.put_le (o := .cells ⟨putL [.int .i64 0] 0 [.int .i64 (nd.ents.length : Nat)]⟩ 3 (0, 0)) (View.see_none_of_ge hr2)
        refine (numbers8_ok (hy.mono hp2) (newInts (l := [((nd.ents.length : Nat) : Int)]) (by intro n hn; simp at hn; subst hn; exact inI64 (by omega) (by omega)) (by simp) rfl) (by show (L ++ numI 2).length + 7 * 1 ≤ _; rw [List.length_append]; omega)).mono ?_
        rintro r V4 ⟨z, rfl, hV4, hz⟩
        rw [numsL_one] at hz
        refine ⟨z, rfl, ?_⟩
        refine loop2 (k := .sl) (l := .int .i64) (fun (x : Sl) (j : Int) V' => ∃ k : Nat, j = k ∧ k ≤ nd.ents.length ∧ SlR V' x (L ++ numI 2 ++ numI (nd.ents.length : Nat) ++ encEs (nd.ents.take k)) ∧ V3.Le V') (fun _ (j : Int) _ => nd.ents.length - j.toNat) ⟨0, rfl, by omega, by simpa [encEs] using hz, hp2.trans hV4⟩ ?_
        rintro (w : Sl) (j : Int) V5 ⟨k, rfl, hk, hw, hV5⟩
        refine br_intro (fun hlt => ?_) (fun hge => ?_)
        · have hlt : k < nd.ents.length := by have := of_decide_eq_true hlt; omega
          obtain ⟨ad2, ha2, hc2, _, hin2⟩ := (hN.ents.mono (hV23.trans hV5)).entN hlt
          have hxm : nd.ents.getD k default ∈ nd.ents := by rw [getD_at hlt]; exact List.getElem_mem _
          have hsz := hnm _ hxm
          have etk : nd.ents.take (k + 1) = nd.ents.take k ++ [nd.ents.getD k default] := by rw [List.take_add_one, List.getElem?_eq_getElem hlt, getD_at hlt]; rfl
          have kes : (encEs (nd.ents.take k)).length ≤ 22 * (nd.ents.take k).length := encEs_len fun y hy => hnm y (List.mem_of_mem_take hy)
          rw [List.length_take] at kes
          refine ⟨by omega, by omega, ad2, ha2, _, _, hc2, fun _ => ?_⟩
          generalize nd.ents.getD k default = e at *
          generalize hW : L ++ numI 2 ++ numI (nd.ents.length : Nat) ++ encEs (nd.ents.take k) = W at *
          have hWl : W.length ≤ 4000 := by rw [← hW]; simp only [List.length_append]; omega
          have hbl := bl_len e.name
          have ktl : (textL (bl e.name)).length ≤ 15 := by
            unfold textL
            have := numI_len ((bl e.name).length : Nat)
            simp only [List.length_append]; omega
          have fin : ∀ {V6 : View} {u : Sl}, SlR V6 u (W ++ textL (bl e.name) ++ numsL [e.node]) → SlR V6 u (W ++ encE e) := fun hu => by
            rw [numsL_one, List.append_assoc] at hu; exact hu
          refine joinP_cut (fun q V' => SlR V' q.1 (W ++ encE e) ∧ V5.Le V') ⟨trivial, V5, View.Le.refl _, ?_, ?_⟩ ?_
          · intro cap hcap r3 hr3
            have hp3 := View.put_le (o := .cells ⟨bytesV e.name ++ List.replicate (cap - e.name.size) (.int .u8 0)⟩ 5 (cap, Nat.succ (Nat.add cap 0))) (View.see_none_of_ge hr3)
            have hbs := newBytes (V := V5) (r := r3) (cap := cap) (b := e.name) (more := List.replicate (cap - e.name.size) (.int .u8 0)) (f := (cap, Nat.succ (Nat.add cap 0))) hcap (by omega)
            refine ⟨hp3, ?_, ?_⟩
            · refine (text8_ok (hw.mono hp3) hbs (by omega)).mono ?_
              rintro r V6 ⟨u, rfl, hu⟩
              refine ⟨u, rfl, hp3.trans hu.vle, fun r4 hr4 => ?_⟩
              have hp4 := View.put_le (o := .cells ⟨putL [.int .i64 0] 0 [.int .i64 e.node]⟩ 3 (0, 0)) (View.see_none_of_ge hr4)
              refine ⟨(hp3.trans hu.vle).trans hp4, (numbers8_ok (hu.slR.mono hp4) (newInts (l := [e.node]) (by simpa using hin2) (by simp) rfl) (by simp only [List.length_append, List.length_cons, List.length_nil]; omega)).mono ?_⟩
              rintro r V7 ⟨v, rfl, hV7, hv⟩
              exact ⟨v, rfl, fin hv, ((hp3.trans hu.vle).trans hp4).trans hV7⟩
            · intro r4 hr4
              have hp4 := View.put_le (o := .cells ⟨putL [.int .i64 0] 0 [.int .i64 e.node]⟩ 3 (0, 0)) (View.see_none_of_ge hr4)
              refine ⟨hp3.trans hp4, (text8_ok (hw.mono (hp3.trans hp4)) (hbs.mono hp4) (by omega)).mono ?_⟩
              rintro r V6 ⟨u, rfl, hu⟩
              have hns : SlR V6 ⟨some ⟨r4, 0, none⟩, 1, 1⟩ [e.node] := (newInts (l := [e.node]) (by simpa using hin2) (by simp) rfl).mono hu.vle
              refine ⟨u, rfl, (hp3.trans hp4).trans hu.vle, (numbers8_ok hu.slR hns (by simp only [List.length_append, List.length_cons, List.length_nil]; omega)).mono ?_⟩
              rintro r V7 ⟨v, rfl, hV7, hv⟩
              exact ⟨v, rfl, fin hv, ((hp3.trans hp4).trans hu.vle).trans hV7⟩
          · intro r4 hr4
            have hp4 := View.put_le (o := .cells ⟨putL [.int .i64 0] 0 [.int .i64 e.node]⟩ 3 (0, 0)) (View.see_none_of_ge hr4)
            refine ⟨hp4, fun cap hcap r3 hr3 => ?_⟩
            have hp3 := View.put_le (o := .cells ⟨bytesV e.name ++ List.replicate (cap - e.name.size) (.int .u8 0)⟩ 5 (cap, Nat.succ (Nat.add cap 0))) (View.see_none_of_ge hr3)
            have hbs := newBytes (V := V5.put r4 (.cells ⟨putL [.int .i64 0] 0 [.int .i64 e.node]⟩ 3 (0, 0))) (r := r3) (cap := cap) (b := e.name) (more := List.replicate (cap - e.name.size) (.int .u8 0)) (f := (cap, Nat.succ (Nat.add cap 0))) hcap (by omega)
            refine ⟨hp4.trans hp3, (text8_ok (hw.mono (hp4.trans hp3)) hbs (by omega)).mono ?_⟩
            rintro r V6 ⟨u, rfl, hu⟩
            have hns : SlR V6 ⟨some ⟨r4, 0, none⟩, 1, 1⟩ [e.node] := (newInts (l := [e.node]) (by simpa using hin2) (by simp) rfl).mono (hp3.trans hu.vle)
            refine ⟨u, rfl, (hp4.trans hp3).trans hu.vle, (numbers8_ok hu.slR hns (by simp only [List.length_append, List.length_cons, List.length_nil]; omega)).mono ?_⟩
            rintro r V7 ⟨v, rfl, hV7, hv⟩
            exact ⟨v, rfl, fin hv, ((hp4.trans hp3).trans hu.vle).trans hV7⟩
          · rintro ⟨q, ⟨⟩⟩ V6 ⟨hq, hV6⟩
            refine ⟨inI64 (by omega) (by omega), ⟨k + 1, by omega, by omega, ?_, hV5.trans hV6⟩, by omega⟩
            rw [etk, encEs_snoc, ← List.append_assoc, hW]; exact hq
        · have hge : k = nd.ents.length := by have := of_decide_eq_false hge; omega
          subst hge
          rw [List.take_length] at hw
          refine ⟨?_, hV5⟩
          simpa [List.append_assoc] using hw
      · have h2 : ¬ nd.kind = 2 := of_decide_eq_false h2
        rw [encN_0 h1 h2]; exact hy
      · rintro ⟨q, ⟨⟩⟩ V4 hq
        exact hq
    · rintro ⟨q, ⟨⟩⟩ V4 ⟨hq, hV4⟩
      refine ⟨inI64 (by omega) (by omega), ⟨i + 1, by omega, by omega, ?_, hV2.trans (hV23.trans hV4)⟩, by omega⟩
      rw [htk]; exact hq
  · have hge : i = 12 := by have := of_decide_eq_false hge; omega
    subst hge
    rw [List.take_of_length_le (by omega)] at hx
    exact ⟨x, 0, rfl, ⟨hx, rfl⟩, hV2⟩
end Go.Proofs.Ytpalkdmngckcoaa
