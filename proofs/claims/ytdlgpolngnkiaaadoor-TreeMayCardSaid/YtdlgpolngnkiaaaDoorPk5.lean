/- Texts joined: TrAOk, In, StIn. -/
import Derived.Test.YtdlgpolngnkiaaaDoorPk4
import Derived.Test.YtdlgpolngnkiaaaDoorPk3
/- TreeTakes answers true. -/
namespace Go.Proofs.YtdlgpolngnkiaaaDoor
open Go
theorem treeTakes_ok {s : Sl} {t : Tre} {p q : ByteArray} {V : View} (h : SlR V s t) (hp : p.size ≤ 9223372036854775807) (hq' : q.size ≤ 9223372036854775807) (hg : Glo V) : CallV Tryd.prog 5 ⟨[treV s, .string p, .string q]⟩ V fun r V' => r = .bool true ∧ V.Le V' := by
  refine f5_x ?_
  unfold f5_n
  have hn := h.n
  refine fun _ => joinP_cut (fun q V' => V.Le V' ∧ (q.1 = false → mayT t = true)) ((light15_ok h).mono ?_) ?_
  · rintro r V1 ⟨x, rfl, _, _, _, rfl⟩
    refine ⟨_, rfl, br_intro (fun _ => ⟨View.Le.refl _, fun h => absurd h (by decide)⟩) (fun _ => (mayTree_ok h).mono ?_)⟩
    rintro r V3 ⟨rfl, hV3⟩
    exact ⟨_, rfl, br_intro (fun _ => ⟨hV3, fun h => absurd h (by decide)⟩) (fun hb => ⟨hV3, fun _ => not_f hb⟩)⟩
  rintro ⟨z, ⟨⟩⟩ V1 ⟨hV1, hz⟩
  dsimp only [unc] at *
  refine br_intro (fun _ => awake19J hV1 (hg.mono hV1) fun V' hV => ⟨rfl, hV⟩) (fun hb => ?_)
  have hM := hz hb
  have hF := mayF hM
  have h12 := hF.len
  refine (dirFind_ok (h.mono hV1) hp (hg.mono hV1)).mono ?_
  rintro r V2 ⟨rfl, hV2⟩
  have q2 := hV1.trans hV2
  obtain ⟨i0, e0, hF1, hF1'⟩ : ∃ i0 e0 : Int, outF (findT t p) = .tuple ⟨[.int .i64 i0, .int .i64 e0]⟩ ∧ ((∃ i : Nat, findT t p = .ok i ∧ i0 = i ∧ e0 = 0) ∨ (findT t p = .error e0 ∧ e0 ≠ 0 ∧ i0 = 0)) := by
    cases hf : findT t p with
    | error e => exact ⟨_, _, rfl, .inr ⟨rfl, ends_only hf, rfl⟩⟩
    | ok i => exact ⟨_, _, rfl, .inl ⟨i, rfl, rfl, rfl⟩⟩
  rw [hF1]
  refine ⟨i0, e0, rfl, (dirFind_ok (h.mono q2) hq' (hg.mono q2)).mono ?_⟩
  rintro r V3 ⟨rfl, hV3⟩
  have q3 := q2.trans hV3
  obtain ⟨i1, e1, hF2, hF2'⟩ : ∃ i0 e0 : Int, outF (findT t q) = .tuple ⟨[.int .i64 i0, .int .i64 e0]⟩ ∧ ((∃ i : Nat, findT t q = .ok i ∧ i0 = i ∧ e0 = 0) ∨ (findT t q = .error e0 ∧ e0 ≠ 0 ∧ i0 = 0)) := by
    cases hf : findT t q with
    | error e => exact ⟨_, _, rfl, .inr ⟨rfl, ends_only hf, rfl⟩⟩
    | ok i => exact ⟨_, _, rfl, .inl ⟨i, rfl, rfl, rfl⟩⟩
  rw [hF2]
  refine ⟨i1, e1, rfl, br_intro (fun _ => awake19J q3 (hg.mono q3) fun V' hV => ⟨rfl, hV⟩) (fun hb2 => ?_)⟩
  -- both are found, and are not the root
  have hcond : e0 = 0 ∧ e1 = 0 ∧ i0 ≠ i1 ∧ 1 ≤ i0 ∧ 1 ≤ i1 := by
    simp only [Bool.cond_true_left, Bool.or_eq_false_iff, Bool.not_eq_false', decide_eq_true_eq, decide_eq_false_iff_not] at hb2
    obtain ⟨⟨⟨⟨⟨⟨c1, c2⟩, c3⟩, c4⟩, c5⟩, _⟩, _⟩ := hb2
    exact ⟨c1, c2, c3, by omega, by omega⟩
  obtain ⟨i, hf1, rfl, rfl⟩ : ∃ i : Nat, findT t p = .ok i ∧ i0 = i ∧ e0 = 0 := by
    rcases hF1' with h | ⟨_, h, _⟩
    · exact h
    · exact absurd hcond.1 h
  obtain ⟨k, hf2, rfl, rfl⟩ : ∃ i : Nat, findT t q = .ok i ∧ i1 = i ∧ e1 = 0 := by
    rcases hF2' with h | ⟨_, h, _⟩
    · exact h
    · exact absurd hcond.2.1 h
  obtain ⟨_, _, hik, hi1, hk1⟩ := hcond
  have hi12 := findT_range hf1
  have hk12 := findT_range hf2
  obtain ⟨ld, d, n, P, hat⟩ := find_par hf1 (by omega)
  obtain ⟨lf, f, r', Q, hatk⟩ := find_par hf2 (by omega)
  refine (rename_ok (held := []) (y := ⟨none, 0, 0⟩) (h.mono q3) (SlR.nil _ _ _) hp hq' (hg.mono q3)).mono ?_
  rintro r V4 ⟨⟨x4, e4, rfl, h4⟩, hV4⟩
  have q4 := q3.trans hV4
  obtain ⟨ad5, sq5, en5, ha5, hc5, hN5⟩ := (h.mono q4).nodN (i := i) (by omega)
  obtain ⟨ad6, sq6, en6, ha6, hc6, hN6⟩ := (h.mono q4).nodN (i := k) (by omega)
  refine ⟨x4, e4, rfl, fun _ => joinP_cut (fun g V' => V' = V4 ∧ g.1 = (t.getD i default).kind ∧ g.2.2.2.2.2.1 = (t.getD k default).kind ∧ g.2.2.2.2.2.2.1 = (t.getD k default).links ∧ g.2.2.2.2.2.2.2.2.2.1.n = en6.n) ⟨trivial, V4, View.Le.refl _, by omega, by omega, ad5, ha5, _, _, _, sq5, en5, hc5, by omega, by omega, ad6, ha6, _, _, _, sq6, en6, hc6, fun _ => ⟨View.Le.refl _, fun _ => ⟨View.Le.refl _, View.Le.refl _, rfl, rfl, rfl, rfl, rfl⟩⟩, fun _ => ⟨View.Le.refl _, fun _ => ⟨View.Le.refl _, View.Le.refl _, rfl, rfl, rfl, rfl, rfl⟩⟩⟩ ?_⟩
  rintro ⟨g1, g2, g3, g4, g5, g6, g7, g8, g9, g10, ⟨⟩⟩ V5 ⟨rfl, j1, j2, j3, j4⟩
  dsimp only [unc] at *
  subst j1 j2 j3
  have hen6 : g10.n = (entsT t k).length := j4.trans hN6.ents.n
  intro _ _
  cases hr : renameT t p q [] with
  | error c =>
    rw [hr] at h4
    obtain ⟨rfl, hc0, _⟩ := h4
    refine br_intro (fun _ => joinP_cut (fun g V' => g.1 = true ∧ V.Le V') (br_intro (fun _ => awake19J q4 (hg.mono q4) fun V' hV => ⟨rfl, hV⟩) (fun hb3 => ?_)) ?_) (fun hb => absurd (of_decide_eq_true (not_f hb)) hc0)
    · exfalso
      rcases takes_err P Q hat hatk (by omega) hr with ⟨rfl, c1⟩ | ⟨rfl, c1, c2⟩ | ⟨rfl, c1, c2⟩ | ⟨rfl, c1⟩
      · have c1 : (t.getD i default).kind = 2 := c1
        rw [c1] at hb3; exact absurd hb3 (by simp)
      · have c1 : (t.getD i default).kind = 2 := c1
        have c2 : (t.getD k default).kind = 1 := c2
        rw [c1, c2] at hb3; exact absurd hb3 (by simp)
      · have c1 : (t.getD i default).kind = 1 := c1
        have c2 : (t.getD k default).kind = 2 := c2
        rw [c1, c2] at hb3; exact absurd hb3 (by simp)
      · rw [decide_eq_true (show (0 : Int) < g10.n by omega)] at hb3; exact absurd hb3 (by simp)
    rintro ⟨g, ⟨⟩⟩ V8 ⟨g1, g2⟩
    dsimp only [unc] at *
    exact ⟨by rw [g1], g2⟩
  | ok u =>
    rw [hr] at h4
    obtain ⟨rfl, h4⟩ := h4
    have hMu := rename_may hr
    have hFu := mayF hMu
    have hul := hFu.len
    have hx4 := h4.n
    obtain ⟨hfu, hkk, hnames, hlost⟩ : findT u q = .ok i ∧ (t.getD i default).kind = (t.getD k default).kind ∧ (allE u).length + 1 = (allE t).length ∧ (u.getD k default).links = (t.getD k default).links - 1 := by
      rcases ren_of hr with ⟨rfl, ld2, d2, n2, lf2, f2, r2, P2, Q2, h0, h1⟩ | ⟨d2, n2, ld2, f2, r2, lf2, i2, R⟩
      · obtain ⟨rfl, rfl, rfl⟩ := P.uniq P2
        obtain ⟨rfl, rfl, rfl⟩ := Q.uniq Q2
        omega
      · obtain ⟨rfl, rfl, rfl⟩ := P.uniq R.P
        obtain ⟨rfl, rfl, rfl⟩ := Q.uniq R.Q
        have := R.hi
        have : i2 = i := by omega
        subst this
        obtain ⟨k', hk', _, _, _, _, _, _, hkind, _⟩ := R.old (by omega)
        have : k' = k := by omega
        subst this
        exact ⟨R.find, hkind.symm, R.names hatk, R.lost hatk⟩
    refine br_intro (fun hb => absurd hb (by decide)) (fun _ => (dirFind_ok h4 hq' (hg.mono q4)).mono ?_)
    rintro r V6 ⟨rfl, hV6⟩
    rw [hfu]
    have q6 := q4.trans hV6
    refine ⟨_, _, rfl, br_intro (fun hb => ?_) (fun _ => ?_)⟩
    · exfalso
      rw [decide_eq_true (show (t.getD i default).kind = (t.getD k default).kind from hkk), decide_eq_true (show (x4.n : Int) = 12 by omega), decide_eq_true rfl, decide_eq_true rfl] at hb
      simp at hb
    have hents : ∀ {v : Tre}, MayF v → ∀ n ∈ v, n.ents.length ≤ 10 := fun hv n hn => mayL_len (mayN_ents (hv.may n hn))
    have hbound : ∀ {v : Tre}, MayF v → ∀ j, j ≤ 12 → (allE (v.take j)).length ≤ 120 := fun {v} hv j hj => by
      have := allE_len (t := v.take j) (m := 10) fun n hn => hents hv n (List.mem_of_mem_take hn)
      rw [List.length_take] at this
      have h2 := hv.len
      have : 10 * min j v.length ≤ 120 := by omega
      omega
    refine loop2 (k := .int .i64) (l := .int .i64) (fun (y j : Int) V' => V' = V6 ∧ ∃ m : Nat, j = m ∧ m ≤ 12 ∧ y = ((allE (u.take m)).length : Nat)) (fun _ (j : Int) _ => 12 - j.toNat) ⟨rfl, 0, rfl, by omega, rfl⟩ ?_
    rintro (y : Int) (j : Int) V7 ⟨rfl, m, rfl, hm, rfl⟩
    refine br_intro (fun hlt => ?_) (fun hge => ?_)
    · have hlt : m < 12 := by have := of_decide_eq_true hlt; omega
      obtain ⟨ad7, sq7, en7, ha7, hc7, hN7⟩ := (h4.mono hV6).nodN (i := m) (by omega)
      have e2 := allE_take (t := u) (i := m) (by omega)
      have b1 := hbound hFu m (by omega)
      have b2 := hbound hFu (m + 1) (by omega)
      have e3 := hN7.ents.n
      have e4 := congrArg List.length e2
      rw [List.length_append] at e4
      refine ⟨by omega, by omega, ad7, ha7, _, _, _, sq7, en7, hc7, fun _ => ⟨⟨rfl, m + 1, ?_, by omega, ?_⟩, ?_⟩⟩
      · rw [wrap_of_in (inI64 (by omega) (by omega))]; omega
      · rw [wrap_of_in (inI64 (by omega) (by omega))]; omega
      · rw [wrap_of_in (inI64 (by omega) (by omega))]; omega
    · have hge : m = 12 := by have := of_decide_eq_false hge; omega
      subst hge
      rw [List.take_of_length_le (by omega)]
      have bu := hbound hFu 12 (by omega)
      rw [List.take_of_length_le (by omega)] at bu
      refine loop2 (k := .int .i64) (l := .int .i64) (fun (y j : Int) V' => V' = V7 ∧ ∃ m : Nat, j = m ∧ m ≤ 12 ∧ y = ((allE u).length : Nat) - ((allE (t.take m)).length : Nat)) (fun _ (j : Int) _ => 12 - j.toNat) ⟨rfl, 0, rfl, by omega, by simp [allE]⟩ ?_
      rintro (y : Int) (j : Int) V8 ⟨rfl, m, rfl, hm2, rfl⟩
      refine br_intro (fun hlt => ?_) (fun hge => ?_)
      · have hlt : m < 12 := by have := of_decide_eq_true hlt; omega
        obtain ⟨ad7, sq7, en7, ha7, hc7, hN7⟩ := (h.mono q6).nodN (i := m) (by omega)
        have e2 := allE_take (t := t) (i := m) (by omega)
        have b1 := hbound hF m (by omega)
        have b2 := hbound hF (m + 1) (by omega)
        have e3 := hN7.ents.n
        have e4 := congrArg List.length e2
        rw [List.length_append] at e4
        refine ⟨by omega, by omega, ad7, ha7, _, _, _, sq7, en7, hc7, fun _ => ⟨⟨rfl, m + 1, ?_, by omega, ?_⟩, ?_⟩⟩
        · rw [wrap_of_in (inI64 (by omega) (by omega))]; omega
        · rw [wrap_of_in (inI64 (by omega) (by omega))]; omega
        · rw [wrap_of_in (inI64 (by omega) (by omega))]; omega
      · have hge : m = 12 := by have := of_decide_eq_false hge; omega
        subst hge
        rw [List.take_of_length_le (by omega)]
        obtain ⟨ad7, sq7, en7, ha7, hc7, hN7⟩ := (h4.mono hV6).nodN (i := k) (by omega)
        have hl := file_links hM hk12
        refine joinP_cut (fun g V' => g.1 = true ∧ V.Le V') ⟨trivial, V8, View.Le.refl _, br_intro (fun _ => ⟨by omega, by omega, ad7, ha7, _, cellsAt_nth hc7 1 rfl, br_intro (fun _ => awake19J q6 (hg.mono q6) fun V' hV => ⟨rfl, hV⟩) (fun hb => ?_)⟩) (fun hb => ?_)⟩ ?_
        · have := of_decide_eq_false hb
          rw [wrap_of_in (inI64 (by omega) (by omega))] at this
          exact absurd hlost this
        · have := of_decide_eq_false hb; omega
        rintro ⟨g, ⟨⟩⟩ V9 ⟨g1, g2⟩
        dsimp only [unc] at *
        exact ⟨by rw [g1], g2⟩
end Go.Proofs.YtdlgpolngnkiaaaDoor

/- How rows and trees come in. -/
namespace Go.Proofs.YtdlgpolngnkiaaaDoor
open Go Go.RowKit Go.ChangeShapes Go.WideShapes
section
variable {H : Type} {enc : TypeId × Value → H} {P : Program} {w : World} {base b0 : Nat} {sp : Nat → Bool} {held : Bool} {r : Go.Reach} {v : Value} {d : DataW H} {ps : List MemPlace}
theorem in_slice {α : Type} [Rep α] {t e : TypeId} (ht : P.underlying t = some (.slice e)) (hT : TrodRep P (List α) t) (hv : Value.okWide P w r b0 t v) (hd : DataW.Trod enc P w base sp held t v d ps) :
    ∃ (s : Sl) (l : List α), v = .slice s.a s.n s.c ∧ SlR (View.all w) s l := by
  obtain ⟨a, len, cap, rfl⟩ := okWide_slice ht hv
  obtain ⟨fuel, hf⟩ := hd
  obtain ⟨l, s, he, hs⟩ := hT.of hf
  simp [Value.cells] at he
  exact ⟨s, l, by rw [he.1, he.2.1, he.2.2], hs⟩
theorem in_tree {α : Type} [Rep α] {t te : TypeId} {fs : Array Field} (ht : P.underlying t = some (.struct fs)) (h0 : fieldX P t 0 = some (0, te)) (hc : P.cellsOf t = 1) (hce : P.cellsOf te = 1) (hT : TrodRep P (List α) te) (hv : Value.okWide P w r b0 t v) (hd : DataW.Trod enc P w base sp held t v d ps) :
    ∃ (s : Sl) (l : List α), v = .agg ⟨[.slice s.a s.n s.c]⟩ ∧ SlR (View.all w) s l := by
  obtain ⟨cs, rfl, hsz⟩ := okWide_struct ht hv
  obtain ⟨fuel, hf⟩ := hd
  obtain ⟨hl, n, y, g⟩ := trod_field h0 hf
  obtain ⟨cs⟩ := cs
  rw [hc] at hsz hl
  match cs, hsz with
  | [c], _ =>
    rw [hce] at g
    obtain ⟨l, s, he, hs⟩ := hT.of g
    simp [Value.cells] at he
    exact ⟨s, l, by rw [he], hs⟩
end
end Go.Proofs.YtdlgpolngnkiaaaDoor

/- How steps come in. -/
namespace Go.Proofs.YtdlgpolngnkiaaaDoor
open Go Go.RowKit Go.ChangeShapes Go.WideShapes
theorem trodRep_bool {P : Program} {t : TypeId} (ht : P.underlying t = some .bool) : TrodRep P Bool t := ⟨fun h => by
  obtain ⟨b, hc, _⟩ := DataW.trod_bool ht h
  exact ⟨b, hc⟩⟩
theorem trodRep_stp {P : Program} {t ti ts tb : TypeId} (h0 : fieldX P t 0 = some (0, ti)) (h1 : fieldX P t 1 = some (1, ti)) (h2 : fieldX P t 2 = some (2, ts)) (h3 : fieldX P t 3 = some (3, ts)) (h4 : fieldX P t 4 = some (4, tb))
    (hc : P.cellsOf t = 5) (hci : P.cellsOf ti = 1) (hcs : P.cellsOf ts = 1) (hcb : P.cellsOf tb = 1) (hi : P.underlying ti = some (.int .i64)) (hs : P.underlying ts = some .string) (hb : TrodRep P (List Bool) tb) : TrodRep P Stp t := ⟨fun {H enc w base sp held fuel cs x} h => by
  obtain ⟨hl, n0, y0, g0⟩ := trod_field h0 h
  obtain ⟨_, n1, y1, g1⟩ := trod_field h1 h
  obtain ⟨_, n2, y2, g2⟩ := trod_field h2 h
  obtain ⟨_, n3, y3, g3⟩ := trod_field h3 h
  obtain ⟨_, n4, y4, g4⟩ := trod_field h4 h
  rw [hc] at hl
  match cs, hl with
  | [a, b, c, d, e], _ =>
    rw [hci] at g0 g1
    rw [hcs] at g2 g3
    rw [hcb] at g4
    obtain ⟨m0, e0, w0⟩ := (trodRep_int hi).of g0
    obtain ⟨m1, e1, w1⟩ := (trodRep_int hi).of g1
    obtain ⟨m2, e2, w2⟩ := (trodRep_string hs).of g2
    obtain ⟨m3, e3, w3⟩ := (trodRep_string hs).of g3
    obtain ⟨l4, s4, e4, w4⟩ := hb.of g4
    simp at e0 e1 e2 e3 e4
    exact ⟨⟨m0, m1, m2, m3, l4⟩, s4, by rw [e0, e1, e2, e3, e4], w1, w2, w3, w4⟩⟩
theorem boolsIn : TrodRep Tryd.prog (List Bool) 50 := trodRep_slice (e := 4) Tryd.underlying50 (by kernel_rfl) (trodRep_bool Tryd.underlying4)
theorem stpIn : TrodRep Tryd.prog Stp 52 := trodRep_stp (ti := 3) (ts := 9) (tb := 50) (by kernel_rfl) (by kernel_rfl) (by kernel_rfl) (by kernel_rfl) (by kernel_rfl) (by kernel_rfl) (by kernel_rfl) (by kernel_rfl) (by kernel_rfl) Tryd.underlying3 Tryd.underlying9 boolsIn
theorem stpsIn : TrodRep Tryd.prog (List Stp) 48 := trodRep_slice (e := 52) Tryd.underlying48 (by kernel_rfl) stpIn
end Go.Proofs.YtdlgpolngnkiaaaDoor
