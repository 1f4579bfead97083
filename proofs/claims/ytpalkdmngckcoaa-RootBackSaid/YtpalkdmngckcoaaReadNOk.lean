/- Contracts of what reads nodes. -/
import Derived.Test.YtpalkdmngckcoaaReadOk
import Derived.Test.YtpalkdmngckcoaaGrow
import Derived.Test.YtpalkdmngckcoaaPathLaw
namespace Go.Proofs.Ytpalkdmngckcoaa
open Go
theorem loop6 {a b c d e f : K} {F : a.ty → b.ty → c.ty → d.ty → e.ty → f.ty → View → (a.ty → b.ty → c.ty → d.ty → e.ty → f.ty → View → Prop) → Prop} {x : a.ty} {y : b.ty} {z : c.ty} {u : d.ty} {v : e.ty} {w : f.ty} {V : View}
    (I : a.ty → b.ty → c.ty → d.ty → e.ty → f.ty → View → Prop) (m : a.ty → b.ty → c.ty → d.ty → e.ty → f.ty → View → Nat) (h0 : I x y z u v w V)
    (step : ∀ x y z u v w V, I x y z u v w V → F x y z u v w V fun x' y' z' u' v' w' V' => I x' y' z' u' v' w' V' ∧ m x' y' z' u' v' w' V' < m x y z u v w V) : loopP [a, b, c, d, e, f] F (x, y, z, u, v, w, ()) V :=
  loopP_inv (fun s V => I s.1 s.2.1 s.2.2.1 s.2.2.2.1 s.2.2.2.2.1 s.2.2.2.2.2.1 V) (fun s V => m s.1 s.2.1 s.2.2.1 s.2.2.2.1 s.2.2.2.2.1 s.2.2.2.2.2.1 V) h0 fun s V h => step s.1 s.2.1 s.2.2.1 s.2.2.2.1 s.2.2.2.2.1 s.2.2.2.2.2.1 V h
abbrev Stt := Option (List UInt8)
/-- Numbers, one behind the other. -/
def rdSeqs : Nat → Stt → List Int × Stt
  | 0, st => ([], st)
  | k + 1, st => ((rdSeqs k st).1 ++ [(rdN (rdSeqs k st).2 1099511627776).1], (rdN (rdSeqs k st).2 1099511627776).2)
/-- Entries, one behind the other. -/
def rdEnts : Nat → Stt → List Ent × Stt
  | 0, st => ([], st)
  | k + 1, st => ((rdEnts k st).1 ++ [⟨ba (rdT (rdEnts k st).2 8).1, (rdN (rdT (rdEnts k st).2 8).2 11).1⟩], (rdN (rdT (rdEnts k st).2 8).2 11).2)
def rdFile (st : Stt) : Nod × Stt :=
  (⟨1, (rdN st 120).1, (rdN (rdN st 120).2 80).1, (rdSeqs 5 (rdN (rdN st 120).2 80).2).1, []⟩, (rdSeqs 5 (rdN (rdN st 120).2 80).2).2)
def rdDir (st : Stt) : Nod × Stt :=
  (⟨2, 1, 0, [], (rdEnts (rdN st 10).1.toNat (rdN st 10).2).1⟩, (rdEnts (rdN st 10).1.toNat (rdN st 10).2).2)
/-- A node. -/
def rdNod (st : Stt) : Nod × Stt :=
  if (rdN st 2).1 = 1 then rdFile (rdN st 2).2 else if (rdN st 2).1 = 2 then rdDir (rdN st 2).2 else (⟨(rdN st 2).1, 0, 0, [], []⟩, (rdN st 2).2)
theorem rdT_size (st : Stt) (most : Nat) : (rdT st most).1.length ≤ most := by
  unfold rdT
  split
  · simp
  · split
    · simp
    · rename_i h
      unfold textP at h
      split at h
      · cases h
      · rename_i h2
        split at h
        · cases h
        · cases h
          have := numP_le h2
          simp; omega
theorem rdSeqs_len : ∀ (k : Nat) (st : Stt), (rdSeqs k st).1.length = k
  | 0, _ => rfl
  | k + 1, st => by simp [rdSeqs, rdSeqs_len k st]
theorem rdEnts_len : ∀ (k : Nat) (st : Stt), (rdEnts k st).1.length = k
  | 0, _ => rfl
  | k + 1, st => by simp [rdEnts, rdEnts_len k st]
/-- Cells of numbers need nothing. -/
structure intL (cs : List Value) (l : List Int) : Prop where
  rep : ∀ {W : View}, repL W cs l
theorem repL.int {W : View} : ∀ {cs : List Value} {l : List Int}, repL W cs l → intL cs l
  | _, [], h => ⟨h⟩
  | _, _ :: _, ⟨vs, us, e, h1, h2⟩ => ⟨⟨vs, us, e, h1, (repL.int h2).rep⟩⟩
structure entL (cs : List Value) (l : List Ent) : Prop where
  rep : ∀ {W : View}, repL W cs l
theorem repL.ent {W : View} : ∀ {cs : List Value} {l : List Ent}, repL W cs l → entL cs l
  | _, [], h => ⟨h⟩
  | _, _ :: _, ⟨vs, us, e, h1, h2⟩ => ⟨⟨vs, us, e, h1, (repL.ent h2).rep⟩⟩
/-- An element in a new block, appended to a row of one's own; a reader stands beside. -/
theorem app1 {α : Type} [Rep α] {V V0 : View} {p r : Nat} {st : Stt} {x : Sl} {e : TypeId} {bytes : Nat} {zero : List Value} {cs vs : List Value} {l : List α} {d : α} {C : Sl → View → Prop} {ob : Obj} {te : TypeId}
    (hz : zero.length = Rep.sz α) (hb : Buf V x e (Rep.sz α) cs) (hr : repL (V.minus x) cs l) (hd : Rep.rep (V.minus x) vs d) (hR : Rd (V.minus x) p st) (hle : V0.Le ((V.minus x).hide p)) (hnew : V.size ≤ r) (hob : ob = .cells ⟨vs⟩ te (0, 0))
    (hm : (x.n + 1) * bytes ≤ 140737488355328) (hm2 : x.n + 1 ≤ 140737488355328)
    (hC : ∀ s V' cs', Buf V' s e (Rep.sz α) cs' → repL (V'.minus s) cs' (l ++ [d]) → Rd (V'.minus s) p st → V0.Le ((V'.minus s).hide p) → C s V') :
    apV (V.put r ob) e (Rep.sz α) bytes zero x (.slice (some ⟨r, 0, none⟩) 1 1) C := by
  subst hob
  have hfr : V.see r = none := View.see_none_of_ge hnew
  have hvl : vs.length = Rep.sz α := Rep.len hd
  refine apV_buf hz (hb.put hfr) (src := vs) (m := 1) ⟨rfl, rowAt_new (View.see_put_same _ _ _) (by rw [Nat.one_mul]; exact hvl)⟩ (by rw [Nat.one_mul]; exact hvl) (Rep.one hd) hm hm2 fun s V' hb' _ hle' => ?_
  have h1 : (V.minus x).Le (V'.minus s) := (put_minus_le hfr).trans hle'
  exact hC s V' _ hb' ((hr.mono h1).snoc (Rep.mono h1 hd)) (hR.mono h1) (hle.trans (hide_mono h1 p))
theorem rdNod_ok {p : Nat} {st : Stt} {V : View} (h : Rd V p st) : CallV Try.prog 27 ⟨[.pointer (some ⟨p, 0, none⟩)]⟩ V fun r V' =>
    ∃ (s e : Sl), r = .agg ⟨[.int .i64 (rdNod st).1.kind, .int .i64 (rdNod st).1.links, .int .i64 (rdNod st).1.size, .slice s.a s.n s.c, .slice e.a e.n e.c]⟩ ∧ NodR (V'.hide p) s e (rdNod st).1 ∧ Rd V' p (rdNod st).2 ∧ (V.hide p).Le (V'.hide p) := by
  refine f27_x ?_
  unfold f27_n
  refine fun _ => (rdNumber_ok (most := 2) h (by decide)).mono ?_
  rintro r V1 ⟨rfl, hR1, hV1⟩
  have hk := rdN_range st 2
  refine ⟨_, rfl, fun _ => ?_⟩
  refine joinP_cut (fun q V' => q.1 = (rdNod st).1.kind ∧ q.2.1 = (rdNod st).1.links ∧ q.2.2.1 = (rdNod st).1.size ∧ NodR (V'.hide p) q.2.2.2.1 q.2.2.2.2.1 (rdNod st).1 ∧ Rd V' p (rdNod st).2 ∧ (V.hide p).Le (V'.hide p)) ?_ ?_
  · refine br_intro (fun h1 => ?_) (fun h1 => ?_)
    · have h1 : (rdN st 2).1 = 1 := by simpa using h1
      have hD : rdNod st = rdFile (rdN st 2).2 := by unfold rdNod; rw [if_pos h1]
      rw [hD]
      generalize (rdN st 2).2 = st1 at *
      refine (rdNumber_ok (most := 120) hR1 (by decide)).mono ?_
      rintro r V2 ⟨rfl, hR2, hV2⟩
      have hl := rdN_range st1 120
      refine ⟨_, rfl, (rdNumber_ok (most := 80) hR2 (by decide)).mono ?_⟩
      rintro r V3 ⟨rfl, hR3, hV3⟩
      have hz := rdN_range (rdN st1 120).2 80
      refine ⟨_, rfl, ?_⟩
      have e0 : rdFile st1 = (⟨1, (rdN st1 120).1, (rdN (rdN st1 120).2 80).1, (rdSeqs 5 (rdN (rdN st1 120).2 80).2).1, []⟩, (rdSeqs 5 (rdN (rdN st1 120).2 80).2).2) := rfl
      rw [e0]
      generalize (rdN (rdN st1 120).2 80).2 = st2 at *
      have hV03 := hV1.trans (hV2.trans hV3)
      refine loop6 (a := .int .i64) (b := .int .i64) (c := .int .i64) (d := .int .i64) (e := .sl) (f := .sl) (fun (x : Int) (k : Int) (l : Int) (z : Int) (s : Sl) (e : Sl) V' => ∃ (i : Nat) (cs : List Value), x = i ∧ i ≤ 5 ∧ k = (rdN st 2).1 ∧ l = (rdN st1 120).1 ∧ z = (rdN (rdN st1 120).2 80).1 ∧ e = ⟨none, 0, 0⟩ ∧
          Buf V' s 3 1 cs ∧ repL (V'.minus s) cs (rdSeqs i st2).1 ∧ Rd (V'.minus s) p (rdSeqs i st2).2 ∧ (V.hide p).Le ((V'.minus s).hide p)) (fun (x : Int) _ _ _ _ _ _ => 5 - x.toNat) ⟨0, [], rfl, by omega, rfl, rfl, rfl, rfl, Buf.nil _ _ _, rfl, hR3, hV03⟩ ?_
      rintro (x : Int) (k : Int) (l : Int) (z : Int) (s : Sl) (e : Sl) V4 ⟨i, cs, rfl, hi, rfl, rfl, rfl, rfl, hb, hr, hR4, hV4⟩
      refine br_intro (fun hlt => ?_) (fun hge => ?_)
      · have hlt : i < 5 := by have := of_decide_eq_true hlt; omega
        have q4 : (V.hide p).Le V4 := hV4.trans ((View.hide_le _ _).trans (View.minus_le _ _))
        refine ⟨trivial, V.hide p, q4, ((rdNumber_ok (most := 1099511627776) hR4 (by decide)).besideB hb).mono ?_⟩
        rintro r V5 ⟨U, ⟨rfl, hR5, hV5⟩, hU, hb5⟩
        have hs := rdN_range (rdSeqs i st2).2 1099511627776
        have hn := hb.n_eq hr
        rw [rdSeqs_len] at hn
        have hV5' : ((V4.minus s).hide p).Le ((V5.minus s).hide p) := hV5.trans (hide_mono hU p)
        have q5 : (V.hide p).Le V5 := (hV4.trans hV5').trans ((View.hide_le _ _).trans (View.minus_le _ _))
        have hr5 : repL (V5.minus s) cs (rdSeqs i st2).1 := (hr.int).rep
        refine ⟨_, rfl, q5, fun r hr1 => ⟨q5.trans (View.put_le (View.see_none_of_ge hr1)), ?_⟩⟩
        refine app1 (α := Int) rfl hb5 hr5 (d := (rdN (rdSeqs i st2).2 1099511627776).1) (vs := [.int .i64 (rdN (rdSeqs i st2).2 1099511627776).1]) ⟨rfl, inI64 (by omega) (by omega)⟩ (hR5.mono hU) (hV4.trans hV5') hr1 rfl (by show (s.n + 1) * 8 ≤ _; omega) (by show s.n + 1 ≤ _; omega) ?_
        intro s6 V6 cs6 hb6 hr6 hR6 hV6
        exact ⟨inI64 (by omega) (by omega), ⟨i + 1, cs6, by omega, by omega, rfl, rfl, rfl, rfl, hb6, hr6, hR6, hV6⟩, by omega⟩
      · have hge : i = 5 := by have := of_decide_eq_false hge; omega
        subst hge
        refine ⟨h1, rfl, rfl, ⟨one64, inI64 (by simp only; omega) (by simp only; omega), inI64 (by simp only; omega) (by simp only; omega), ?_, SlR.nil _ _ _⟩, hR4.mono (View.minus_le _ _), hV4.trans (hide_mono (View.minus_le _ _) p)⟩
        have hx : Rd (V4.minus s) p (rdSeqs 5 st2).2 := hR4
        obtain ⟨_, _, _, ⟨_, ho⟩, _⟩ := hx
        exact (hb.hide ho).slR (W := (V4.hide p).minus s) ((hr.int).rep) (View.minus_le _ _)
    · have h1 : ¬ (rdN st 2).1 = 1 := by simpa using h1
      refine joinP_cut (fun q V' => q.1 = (rdNod st).1.kind ∧ q.2.1 = (rdNod st).1.links ∧ q.2.2.1 = (rdNod st).1.size ∧ NodR (V'.hide p) q.2.2.2.1 q.2.2.2.2.1 (rdNod st).1 ∧ Rd V' p (rdNod st).2 ∧ (V.hide p).Le (V'.hide p)) (br_intro (fun h2 => ?_) (fun h2 => ?_)) ?_
      · have h2 : (rdN st 2).1 = 2 := by simpa using h2
        have hD : rdNod st = rdDir (rdN st 2).2 := by unfold rdNod; rw [if_neg h1, if_pos h2]
        rw [hD]
        generalize (rdN st 2).2 = st1 at *
        refine (rdNumber_ok (most := 10) hR1 (by decide)).mono ?_
        rintro r V2 ⟨rfl, hR2, hV2⟩
        have hl := rdN_range st1 10
        refine ⟨_, rfl, ?_⟩
        have e0 : rdDir st1 = (⟨2, 1, 0, [], (rdEnts (rdN st1 10).1.toNat (rdN st1 10).2).1⟩, (rdEnts (rdN st1 10).1.toNat (rdN st1 10).2).2) := rfl
        rw [e0]
        generalize (rdN st1 10).2 = st2 at *
        obtain ⟨m, hm⟩ : ∃ m : Nat, (rdN st1 10).1 = m := ⟨(rdN st1 10).1.toNat, by omega⟩
        rw [hm] at hl ⊢
        rw [Int.toNat_natCast]
        have hV02 := hV1.trans hV2
        refine loop6 (a := .int .i64) (b := .int .i64) (c := .int .i64) (d := .int .i64) (e := .sl) (f := .sl) (fun (x : Int) (k : Int) (l : Int) (z : Int) (s : Sl) (e : Sl) V' => ∃ (i : Nat) (cs : List Value), x = i ∧ i ≤ m ∧ k = (rdN st 2).1 ∧ l = 1 ∧ z = 0 ∧ s = ⟨none, 0, 0⟩ ∧
            Buf V' e 61 2 cs ∧ repL (V'.minus e) cs (rdEnts i st2).1 ∧ Rd (V'.minus e) p (rdEnts i st2).2 ∧ (V.hide p).Le ((V'.minus e).hide p)) (fun (x : Int) _ _ _ _ _ _ => m - x.toNat) ⟨0, [], rfl, by omega, rfl, rfl, rfl, rfl, Buf.nil _ _ _, rfl, hR2, hV02⟩ ?_
        rintro (x : Int) (k : Int) (l : Int) (z : Int) (s : Sl) (e : Sl) V4 ⟨i, cs, rfl, hi, rfl, rfl, rfl, rfl, hb, hr, hR4, hV4⟩
        refine br_intro (fun hlt => ?_) (fun hge => ?_)
        · have hlt : i < m := by have := of_decide_eq_true hlt; omega
          have q4 : (V.hide p).Le V4 := hV4.trans ((View.hide_le _ _).trans (View.minus_le _ _))
          refine ⟨trivial, V.hide p, q4, ((rdText_ok (most := 8) hR4 (by decide)).besideB hb).mono ?_⟩
          rintro r V5 ⟨U, ⟨t, rfl, ht, hR5, hV5⟩, hU, hb5⟩
          have hn := hb.n_eq hr
          rw [rdEnts_len] at hn
          have hV5' : ((V4.minus e).hide p).Le ((V5.minus e).hide p) := hV5.trans (hide_mono hU p)
          have q5 : (V.hide p).Le V5 := (hV4.trans hV5').trans ((View.hide_le _ _).trans (View.minus_le _ _))
          have hr5 : repL (V5.minus e) cs (rdEnts i st2).1 := (hr.ent).rep
          have htl := rdT_size (rdEnts i st2).2 8
          refine ⟨t, rfl, q5, (V5.minus e).hide p, hV4.trans hV5', (View.hide_le _ _).trans (View.minus_le _ _), ba (rdT (rdEnts i st2).2 8).1, ?_, ((rdNumber_ok (most := 11) (hR5.mono hU) (by decide)).besideB hb5).mono ?_⟩
          · have := (ht.mono (hide_mono hU p)).row8
            rw [Nat.mul_one] at this
            exact this
          rintro r V6 ⟨U6, ⟨rfl, hR6, hV6⟩, hU6, hb6⟩
          have hs := rdN_range (rdT (rdEnts i st2).2 8).2 11
          have hV6' : ((V5.minus e).hide p).Le ((V6.minus e).hide p) := hV6.trans (hide_mono hU6 p)
          have q6 : ((V5.minus e).hide p).Le V6 := hV6'.trans ((View.hide_le _ _).trans (View.minus_le _ _))
          have hr6 : repL (V6.minus e) cs (rdEnts i st2).1 := (hr.ent).rep
          refine ⟨_, rfl, q6, fun r hr1 => ⟨q6.trans (View.put_le (View.see_none_of_ge hr1)), ?_⟩⟩
          refine app1 (α := Ent) rfl hb6 hr6 (d := ⟨ba (rdT (rdEnts i st2).2 8).1, (rdN (rdT (rdEnts i st2).2 8).2 11).1⟩) (vs := [.string (ba (rdT (rdEnts i st2).2 8).1), .int .i64 (rdN (rdT (rdEnts i st2).2 8).2 11).1])
            ⟨rfl, by show (rdT (rdEnts i st2).2 8).1.length ≤ _; omega, inI64 (by simp only; omega) (by simp only; omega)⟩ (hR6.mono hU6) ((hV4.trans hV5').trans hV6') hr1 rfl (by show (e.n + 1) * 24 ≤ _; omega) (by show e.n + 1 ≤ _; omega) ?_
          intro s7 V7 cs7 hb7 hr7 hR7 hV7
          exact ⟨inI64 (by omega) (by omega), ⟨i + 1, cs7, by omega, by omega, rfl, rfl, rfl, rfl, hb7, hr7, hR7, hV7⟩, by omega⟩
        · have hge : i = m := by have := of_decide_eq_false hge; omega
          subst hge
          refine ⟨h2, rfl, rfl, ⟨two64, one64, zero64, SlR.nil _ _ _, ?_⟩, hR4.mono (View.minus_le _ _), hV4.trans (hide_mono (View.minus_le _ _) p)⟩
          have hx : Rd (V4.minus e) p (rdEnts i st2).2 := hR4
          obtain ⟨_, _, _, ⟨_, ho⟩, _⟩ := hx
          exact (hb.hide ho).slR (W := (V4.hide p).minus e) ((hr.ent).rep) (View.minus_le _ _)
      · have h2 : ¬ (rdN st 2).1 = 2 := by simpa using h2
        have hD : rdNod st = (⟨(rdN st 2).1, 0, 0, [], []⟩, (rdN st 2).2) := by unfold rdNod; rw [if_neg h1, if_neg h2]
        rw [hD]
        exact ⟨rfl, rfl, rfl, ⟨inI64 (by simp only; omega) (by simp only; omega), zero64, zero64, SlR.nil _ _ _, SlR.nil _ _ _⟩, hR1, hV1⟩
      · rintro ⟨k, l, z, s, e, ⟨⟩⟩ V' h
        exact h
  · rintro ⟨k, l, z, s, e, ⟨⟩⟩ V' ⟨h1, h2, h3, h4, h5, h6⟩
    simp only at h1 h2 h3 h4
    subst h1 h2 h3
    exact ⟨s, e, rfl, h4, h5, h6⟩
end Go.Proofs.Ytpalkdmngckcoaa
