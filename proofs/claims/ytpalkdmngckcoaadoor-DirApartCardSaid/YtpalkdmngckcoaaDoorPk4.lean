/- Texts joined: ReadNOk, RootLaw, RootOk, EqOk, RefsOk, AwakeOk, ReachLaw, ReachOk, FindOk, NameOk, RefOk, RefMayOk, BackLaw, RootCutOk, Dir1Ok, TreeLaw, Dir2Ok, Set, CopyOk, Dir3Ok, DrFast, RootBackOk, Dir4Ok, BitsLaw, Ref3Ok, Put3Ok, Ref4Ok. -/
import Derived.Test.YtpalkdmngckcoaaDoorPk3
import Derived.Test.YtpalkdmngckcoaaDoorPk1
import Derived.Test.YtpalkdmngckcoaaDoorSoundC
import Derived.Test.YtpalkdmngckcoaaDoorCore
/- Contracts of what reads nodes. -/
namespace Go.Proofs.YtpalkdmngckcoaaDoor
open Go
theorem loop6 {a b c d e f : K} {F : a.ty → b.ty → c.ty → d.ty → e.ty → f.ty → View → (a.ty → b.ty → c.ty → d.ty → e.ty → f.ty → View → Prop) → Prop} {x : a.ty} {y : b.ty} {z : c.ty} {u : d.ty} {v : e.ty} {w : f.ty} {V : View}
    (I : a.ty → b.ty → c.ty → d.ty → e.ty → f.ty → View → Prop) (m : a.ty → b.ty → c.ty → d.ty → e.ty → f.ty → View → Nat) (h0 : I x y z u v w V)
    (step : ∀ x y z u v w V, I x y z u v w V → F x y z u v w V fun x' y' z' u' v' w' V' => I x' y' z' u' v' w' V' ∧ m x' y' z' u' v' w' V' < m x y z u v w V) : loopP [a, b, c, d, e, f] F (x, y, z, u, v, w, ()) V :=
  loopP_inv (fun s V => I s.1 s.2.1 s.2.2.1 s.2.2.2.1 s.2.2.2.2.1 s.2.2.2.2.2.1 V) (fun s V => m s.1 s.2.1 s.2.2.1 s.2.2.2.1 s.2.2.2.2.1 s.2.2.2.2.2.1 V) h0 fun s V h => step s.1 s.2.1 s.2.2.1 s.2.2.2.1 s.2.2.2.2.1 s.2.2.2.2.2.1 V h
abbrev Stt := Option (List UInt8)
/-- Numbers, one behind the other. -/
def rdSeqs : Nat → Stt → List Int × Stt
  | 0, st => ([], st)
  | k + 1, st => ((rdSeqs k st).1 ++ [(rdN (rdSeqs k st).2 1099511627776).1], (rdN (rdSeqs k st).2 1099511627776).2)
/-- Entries, one behind the other. -/
def rdEnts : Nat → Stt → List Ent × Stt
  | 0, st => ([], st)
  | k + 1, st => ((rdEnts k st).1 ++ [⟨ba (rdT (rdEnts k st).2 8).1, (rdN (rdT (rdEnts k st).2 8).2 11).1⟩], (rdN (rdT (rdEnts k st).2 8).2 11).2)
def rdFile (st : Stt) : Nod × Stt :=
  (⟨1, (rdN st 120).1, (rdN (rdN st 120).2 80).1, (rdSeqs 5 (rdN (rdN st 120).2 80).2).1, []⟩, (rdSeqs 5 (rdN (rdN st 120).2 80).2).2)
def rdDir (st : Stt) : Nod × Stt :=
  (⟨2, 1, 0, [], (rdEnts (rdN st 10).1.toNat (rdN st 10).2).1⟩, (rdEnts (rdN st 10).1.toNat (rdN st 10).2).2)
/-- A node. -/
def rdNod (st : Stt) : Nod × Stt :=
  if (rdN st 2).1 = 1 then rdFile (rdN st 2).2 else if (rdN st 2).1 = 2 then rdDir (rdN st 2).2 else (⟨(rdN st 2).1, 0, 0, [], []⟩, (rdN st 2).2)
theorem rdT_size (st : Stt) (most : Nat) : (rdT st most).1.length ≤ most := by
  unfold rdT
  split
  · simp
  · split
    · simp
    · rename_i h
      unfold textP at h
      split at h
      · cases h
      · rename_i h2
        split at h
        · cases h
        · cases h
          have := numP_le h2
          simp; omega
theorem rdSeqs_len : ∀ (k : Nat) (st : Stt), (rdSeqs k st).1.length = k
  | 0, _ => rfl
  | k + 1, st => by simp [rdSeqs, rdSeqs_len k st]
theorem rdEnts_len : ∀ (k : Nat) (st : Stt), (rdEnts k st).1.length = k
  | 0, _ => rfl
  | k + 1, st => by simp [rdEnts, rdEnts_len k st]
/-- Cells of numbers need nothing. -/
structure intL (cs : List Value) (l : List Int) : Prop where
  rep : ∀ {W : View}, repL W cs l
theorem repL.int {W : View} : ∀ {cs : List Value} {l : List Int}, repL W cs l → intL cs l
  | _, [], h => ⟨h⟩
  | _, _ :: _, ⟨vs, us, e, h1, h2⟩ => ⟨⟨vs, us, e, h1, (repL.int h2).rep⟩⟩
structure entL (cs : List Value) (l : List Ent) : Prop where
  rep : ∀ {W : View}, repL W cs l
theorem repL.ent {W : View} : ∀ {cs : List Value} {l : List Ent}, repL W cs l → entL cs l
  | _, [], h => ⟨h⟩
  | _, _ :: _, ⟨vs, us, e, h1, h2⟩ => ⟨⟨vs, us, e, h1, (repL.ent h2).rep⟩⟩
/-- An element in a new block, appended to a row of one's own; a reader stands beside. -/
theorem app1 {α : Type} [Rep α] {V V0 : View} {p r : Nat} {st : Stt} {x : Sl} {e : TypeId} {bytes : Nat} {zero : List Value} {cs vs : List Value} {l : List α} {d : α} {C : Sl → View → Prop} {ob : Obj} {te : TypeId}
    (hz : zero.length = Rep.sz α) (hb : Buf V x e (Rep.sz α) cs) (hr : repL (V.minus x) cs l) (hd : Rep.rep (V.minus x) vs d) (hR : Rd (V.minus x) p st) (hle : V0.Le ((V.minus x).hide p)) (hnew : V.size ≤ r) (hob : ob = .cells ⟨vs⟩ te (0, 0))
    (hm : (x.n + 1) * bytes ≤ 140737488355328) (hm2 : x.n + 1 ≤ 140737488355328)
    (hC : ∀ s V' cs', Buf V' s e (Rep.sz α) cs' → repL (V'.minus s) cs' (l ++ [d]) → Rd (V'.minus s) p st → V0.Le ((V'.minus s).hide p) → C s V') :
    apV (V.put r ob) e (Rep.sz α) bytes zero x (.slice (some ⟨r, 0, none⟩) 1 1) C := by
  subst hob
  have hfr : V.see r = none := View.see_none_of_ge hnew
  have hvl : vs.length = Rep.sz α := Rep.len hd
  refine apV_buf hz (hb.put hfr) (src := vs) (m := 1) ⟨rfl, rowAt_new (View.see_put_same _ _ _) (by rw [Nat.one_mul]; exact hvl)⟩ (by rw [Nat.one_mul]; exact hvl) (Rep.one hd) hm hm2 fun s V' hb' _ hle' => ?_
  have h1 : (V.minus x).Le (V'.minus s) := (put_minus_le hfr).trans hle'
  exact hC s V' _ hb' ((hr.mono h1).snoc (Rep.mono h1 hd)) (hR.mono h1) (hle.trans (hide_mono h1 p))
theorem rdNod_ok {p : Nat} {st : Stt} {V : View} (h : Rd V p st) : CallV Tryd.prog 77 ⟨[.pointer (some ⟨p, 0, none⟩)]⟩ V fun r V' =>
    ∃ (s e : Sl), r = .agg ⟨[.int .i64 (rdNod st).1.kind, .int .i64 (rdNod st).1.links, .int .i64 (rdNod st).1.size, .slice s.a s.n s.c, .slice e.a e.n e.c]⟩ ∧ NodR (V'.hide p) s e (rdNod st).1 ∧ Rd V' p (rdNod st).2 ∧ (V.hide p).Le (V'.hide p) := by
  refine f77_x ?_
  unfold f77_n
  refine fun _ => (rdNumber_ok (most := 2) h (by decide)).mono ?_
  rintro r V1 ⟨rfl, hR1, hV1⟩
  have hk := rdN_range st 2
  refine ⟨_, rfl, fun _ => ?_⟩
  refine joinP_cut (fun q V' => q.1 = (rdNod st).1.kind ∧ q.2.1 = (rdNod st).1.links ∧ q.2.2.1 = (rdNod st).1.size ∧ NodR (V'.hide p) q.2.2.2.1 q.2.2.2.2.1 (rdNod st).1 ∧ Rd V' p (rdNod st).2 ∧ (V.hide p).Le (V'.hide p)) ?_ ?_
  · refine br_intro (fun h1 => ?_) (fun h1 => ?_)
    · have h1 : (rdN st 2).1 = 1 := by simpa using h1
      have hD : rdNod st = rdFile (rdN st 2).2 := by unfold rdNod; rw [if_pos h1]
      rw [hD]
      generalize (rdN st 2).2 = st1 at *
      refine (rdNumber_ok (most := 120) hR1 (by decide)).mono ?_
      rintro r V2 ⟨rfl, hR2, hV2⟩
      have hl := rdN_range st1 120
      refine ⟨_, rfl, (rdNumber_ok (most := 80) hR2 (by decide)).mono ?_⟩
      rintro r V3 ⟨rfl, hR3, hV3⟩
      have hz := rdN_range (rdN st1 120).2 80
      refine ⟨_, rfl, ?_⟩
      have e0 : rdFile st1 = (⟨1, (rdN st1 120).1, (rdN (rdN st1 120).2 80).1, (rdSeqs 5 (rdN (rdN st1 120).2 80).2).1, []⟩, (rdSeqs 5 (rdN (rdN st1 120).2 80).2).2) := rfl
      rw [e0]
      generalize (rdN (rdN st1 120).2 80).2 = st2 at *
      have hV03 := hV1.trans (hV2.trans hV3)
      refine loop6 (a := .int .i64) (b := .int .i64) (c := .int .i64) (d := .int .i64) (e := .sl) (f := .sl) (fun (x : Int) (k : Int) (l : Int) (z : Int) (s : Sl) (e : Sl) V' => ∃ (i : Nat) (cs : List Value), x = i ∧ i ≤ 5 ∧ k = (rdN st 2).1 ∧ l = (rdN st1 120).1 ∧ z = (rdN (rdN st1 120).2 80).1 ∧ e = ⟨none, 0, 0⟩ ∧
          Buf V' s 3 1 cs ∧ repL (V'.minus s) cs (rdSeqs i st2).1 ∧ Rd (V'.minus s) p (rdSeqs i st2).2 ∧ (V.hide p).Le ((V'.minus s).hide p)) (fun (x : Int) _ _ _ _ _ _ => 5 - x.toNat) ⟨0, [], rfl, by omega, rfl, rfl, rfl, rfl, Buf.nil _ _ _, rfl, hR3, hV03⟩ ?_
      rintro (x : Int) (k : Int) (l : Int) (z : Int) (s : Sl) (e : Sl) V4 ⟨i, cs, rfl, hi, rfl, rfl, rfl, rfl, hb, hr, hR4, hV4⟩
      refine br_intro (fun hlt => ?_) (fun hge => ?_)
      · have hlt : i < 5 := by have := of_decide_eq_true hlt; omega
        have q4 : (V.hide p).Le V4 := hV4.trans ((View.hide_le _ _).trans (View.minus_le _ _))
        refine ⟨trivial, V.hide p, q4, ((rdNumber_ok (most := 1099511627776) hR4 (by decide)).besideB hb).mono ?_⟩
        rintro r V5 ⟨U, ⟨rfl, hR5, hV5⟩, hU, hb5⟩
        have hs := rdN_range (rdSeqs i st2).2 1099511627776
        have hn := hb.n_eq hr
        rw [rdSeqs_len] at hn
        have hV5' : ((V4.minus s).hide p).Le ((V5.minus s).hide p) := hV5.trans (hide_mono hU p)
        have q5 : (V.hide p).Le V5 := (hV4.trans hV5').trans ((View.hide_le _ _).trans (View.minus_le _ _))
        have hr5 : repL (V5.minus s) cs (rdSeqs i st2).1 := (hr.int).rep
        refine ⟨_, rfl, q5, fun r hr1 => ⟨q5.trans (View.put_le (View.see_none_of_ge hr1)), ?_⟩⟩
        refine app1 (α := Int) rfl hb5 hr5 (d := (rdN (rdSeqs i st2).2 1099511627776).1) (vs := [.int .i64 (rdN (rdSeqs i st2).2 1099511627776).1]) ⟨rfl, inI64 (by omega) (by omega)⟩ (hR5.mono hU) (hV4.trans hV5') hr1 rfl (by show (s.n + 1) * 8 ≤ _; omega) (by show s.n + 1 ≤ _; omega) ?_
        intro s6 V6 cs6 hb6 hr6 hR6 hV6
        exact ⟨inI64 (by omega) (by omega), ⟨i + 1, cs6, by omega, by omega, rfl, rfl, rfl, rfl, hb6, hr6, hR6, hV6⟩, by omega⟩
      · have hge : i = 5 := by have := of_decide_eq_false hge; omega
        subst hge
        refine ⟨h1, rfl, rfl, ⟨one64, inI64 (by simp only; omega) (by simp only; omega), inI64 (by simp only; omega) (by simp only; omega), ?_, SlR.nil _ _ _⟩, hR4.mono (View.minus_le _ _), hV4.trans (hide_mono (View.minus_le _ _) p)⟩
        have hx : Rd (V4.minus s) p (rdSeqs 5 st2).2 := hR4
        obtain ⟨_, _, _, ⟨_, ho⟩, _⟩ := hx
        exact (hb.hide ho).slR (W := (V4.hide p).minus s) ((hr.int).rep) (View.minus_le _ _)
    · have h1 : ¬ (rdN st 2).1 = 1 := by simpa using h1
      refine joinP_cut (fun q V' => q.1 = (rdNod st).1.kind ∧ q.2.1 = (rdNod st).1.links ∧ q.2.2.1 = (rdNod st).1.size ∧ NodR (V'.hide p) q.2.2.2.1 q.2.2.2.2.1 (rdNod st).1 ∧ Rd V' p (rdNod st).2 ∧ (V.hide p).Le (V'.hide p)) (br_intro (fun h2 => ?_) (fun h2 => ?_)) ?_
      · have h2 : (rdN st 2).1 = 2 := by simpa using h2
        have hD : rdNod st = rdDir (rdN st 2).2 := by unfold rdNod; rw [if_neg h1, if_pos h2]
        rw [hD]
        generalize (rdN st 2).2 = st1 at *
        refine (rdNumber_ok (most := 10) hR1 (by decide)).mono ?_
        rintro r V2 ⟨rfl, hR2, hV2⟩
        have hl := rdN_range st1 10
        refine ⟨_, rfl, ?_⟩
        have e0 : rdDir st1 = (⟨2, 1, 0, [], (rdEnts (rdN st1 10).1.toNat (rdN st1 10).2).1⟩, (rdEnts (rdN st1 10).1.toNat (rdN st1 10).2).2) := rfl
        rw [e0]
        generalize (rdN st1 10).2 = st2 at *
        obtain ⟨m, hm⟩ : ∃ m : Nat, (rdN st1 10).1 = m := ⟨(rdN st1 10).1.toNat, by omega⟩
        rw [hm] at hl ⊢
        rw [Int.toNat_natCast]
        have hV02 := hV1.trans hV2
        refine loop6 (a := .int .i64) (b := .int .i64) (c := .int .i64) (d := .int .i64) (e := .sl) (f := .sl) (fun (x : Int) (k : Int) (l : Int) (z : Int) (s : Sl) (e : Sl) V' => ∃ (i : Nat) (cs : List Value), x = i ∧ i ≤ m ∧ k = (rdN st 2).1 ∧ l = 1 ∧ z = 0 ∧ s = ⟨none, 0, 0⟩ ∧
            Buf V' e 39 2 cs ∧ repL (V'.minus e) cs (rdEnts i st2).1 ∧ Rd (V'.minus e) p (rdEnts i st2).2 ∧ (V.hide p).Le ((V'.minus e).hide p)) (fun (x : Int) _ _ _ _ _ _ => m - x.toNat) ⟨0, [], rfl, by omega, rfl, rfl, rfl, rfl, Buf.nil _ _ _, rfl, hR2, hV02⟩ ?_
        rintro (x : Int) (k : Int) (l : Int) (z : Int) (s : Sl) (e : Sl) V4 ⟨i, cs, rfl, hi, rfl, rfl, rfl, rfl, hb, hr, hR4, hV4⟩
        refine br_intro (fun hlt => ?_) (fun hge => ?_)
        · have hlt : i < m := by have := of_decide_eq_true hlt; omega
          have q4 : (V.hide p).Le V4 := hV4.trans ((View.hide_le _ _).trans (View.minus_le _ _))
          refine ⟨trivial, V.hide p, q4, ((rdText_ok (most := 8) hR4 (by decide)).besideB hb).mono ?_⟩
          rintro r V5 ⟨U, ⟨t, rfl, ht, hR5, hV5⟩, hU, hb5⟩
          have hn := hb.n_eq hr
          rw [rdEnts_len] at hn
          have hV5' : ((V4.minus e).hide p).Le ((V5.minus e).hide p) := hV5.trans (hide_mono hU p)
          have q5 : (V.hide p).Le V5 := (hV4.trans hV5').trans ((View.hide_le _ _).trans (View.minus_le _ _))
          have hr5 : repL (V5.minus e) cs (rdEnts i st2).1 := (hr.ent).rep
          have htl := rdT_size (rdEnts i st2).2 8
          refine ⟨t, rfl, q5, (V5.minus e).hide p, hV4.trans hV5', (View.hide_le _ _).trans (View.minus_le _ _), ba (rdT (rdEnts i st2).2 8).1, ?_, ((rdNumber_ok (most := 11) (hR5.mono hU) (by decide)).besideB hb5).mono ?_⟩
          · have := (ht.mono (hide_mono hU p)).row8
            rw [Nat.mul_one] at this
            exact this
          rintro r V6 ⟨U6, ⟨rfl, hR6, hV6⟩, hU6, hb6⟩
          have hs := rdN_range (rdT (rdEnts i st2).2 8).2 11
          have hV6' : ((V5.minus e).hide p).Le ((V6.minus e).hide p) := hV6.trans (hide_mono hU6 p)
          have q6 : ((V5.minus e).hide p).Le V6 := hV6'.trans ((View.hide_le _ _).trans (View.minus_le _ _))
          have hr6 : repL (V6.minus e) cs (rdEnts i st2).1 := (hr.ent).rep
          refine ⟨_, rfl, q6, fun r hr1 => ⟨q6.trans (View.put_le (View.see_none_of_ge hr1)), ?_⟩⟩
          refine app1 (α := Ent) rfl hb6 hr6 (d := ⟨ba (rdT (rdEnts i st2).2 8).1, (rdN (rdT (rdEnts i st2).2 8).2 11).1⟩) (vs := [.string (ba (rdT (rdEnts i st2).2 8).1), .int .i64 (rdN (rdT (rdEnts i st2).2 8).2 11).1])
            ⟨rfl, by show (rdT (rdEnts i st2).2 8).1.length ≤ _; omega, inI64 (by simp only; omega) (by simp only; omega)⟩ (hR6.mono hU6) ((hV4.trans hV5').trans hV6') hr1 rfl (by show (e.n + 1) * 24 ≤ _; omega) (by show e.n + 1 ≤ _; omega) ?_
          intro s7 V7 cs7 hb7 hr7 hR7 hV7
          exact ⟨inI64 (by omega) (by omega), ⟨i + 1, cs7, by omega, by omega, rfl, rfl, rfl, rfl, hb7, hr7, hR7, hV7⟩, by omega⟩
        · have hge : i = m := by have := of_decide_eq_false hge; omega
          subst hge
          refine ⟨h2, rfl, rfl, ⟨two64, one64, zero64, SlR.nil _ _ _, ?_⟩, hR4.mono (View.minus_le _ _), hV4.trans (hide_mono (View.minus_le _ _) p)⟩
          have hx : Rd (V4.minus e) p (rdEnts i st2).2 := hR4
          obtain ⟨_, _, _, ⟨_, ho⟩, _⟩ := hx
          exact (hb.hide ho).slR (W := (V4.hide p).minus e) ((hr.ent).rep) (View.minus_le _ _)
      · have h2 : ¬ (rdN st 2).1 = 2 := by simpa using h2
        have hD : rdNod st = (⟨(rdN st 2).1, 0, 0, [], []⟩, (rdN st 2).2) := by unfold rdNod; rw [if_neg h1, if_neg h2]
        rw [hD]
        exact ⟨rfl, rfl, rfl, ⟨inI64 (by simp only; omega) (by simp only; omega), zero64, zero64, SlR.nil _ _ _, SlR.nil _ _ _⟩, hR1, hV1⟩
      · rintro ⟨k, l, z, s, e, ⟨⟩⟩ V' h
        exact h
  · rintro ⟨k, l, z, s, e, ⟨⟩⟩ V' ⟨h1, h2, h3, h4, h5, h6⟩
    simp only at h1 h2 h3 h4
    subst h1 h2 h3
    exact ⟨s, e, rfl, h4, h5, h6⟩
end Go.Proofs.YtpalkdmngckcoaaDoor

/- Trees as bytes: plain functions and what they answer. No program in this text. -/
namespace Go.Proofs.YtpalkdmngckcoaaDoor
open Go
def encE (x : Ent) : List UInt8 := textL (bl x.name) ++ numI x.node
def encEs (l : List Ent) : List UInt8 := (l.map encE).flatten
/-- A node as bytes. -/
def encN (n : Nod) : List UInt8 :=
  numI n.kind ++ (if n.kind = 1 then numI n.links ++ numI n.size ++ numsL n.seqs else if n.kind = 2 then numI n.ents.length ++ encEs n.ents else [])
theorem encN_1 {n : Nod} (h : n.kind = 1) : encN n = numI 1 ++ (numI n.links ++ numI n.size ++ numsL n.seqs) := by unfold encN; rw [if_pos h, h]
theorem encN_2 {n : Nod} (h : n.kind = 2) : encN n = numI 2 ++ (numI n.ents.length ++ encEs n.ents) := by unfold encN; rw [if_neg (by omega), if_pos h, h]
theorem encN_0 {n : Nod} (h1 : ¬ n.kind = 1) (h2 : ¬ n.kind = 2) : encN n = numI n.kind := by unfold encN; rw [if_neg h1, if_neg h2, List.append_nil]
/-- A tree as bytes. -/
def encT (t : Tre) : List UInt8 := (t.map encN).flatten
/-- Nodes, one behind the other. -/
def rdTre : Nat → Stt → Tre × Stt
  | 0, st => ([], st)
  | k + 1, st => ((rdTre k st).1 ++ [(rdNod (rdTre k st).2).1], (rdNod (rdTre k st).2).2)
/-- The tree that bytes are. -/
noncomputable def parseT (l : List UInt8) : Option Tre :=
  if (rdTre 12 (some l)).2 = some [] ∧ mayT (rdTre 12 (some l)).1 = true then some (rdTre 12 (some l)).1 else none
theorem clampN_nat {n : Nat} (h : n ≤ 1099511627776) : clampN n = n := by unfold clampN; omega
theorem rdN_some {st : Stt} {most : Nat} {r : List UInt8} (h : (rdN st most).2 = some r) : ∃ l, st = some l ∧ l = numL (rdN st most).1.toNat ++ r := by
  unfold rdN at h ⊢
  split at h
  · cases h
  · rename_i b
    split at h
    · cases h
    · rename_i n r' hp
      cases h
      refine ⟨b, rfl, ?_⟩
      exact (numL_numP hp).2
theorem rdN_numI {st : Stt} {most : Nat} {r : List UInt8} (hm : most ≤ 1099511627776) (h : (rdN st most).2 = some r) : ∃ l, st = some l ∧ l = numI (rdN st most).1 ++ r := by
  obtain ⟨l, h1, h2⟩ := rdN_some h
  refine ⟨l, h1, ?_⟩
  have hr := rdN_range st most
  unfold numI
  have : clampN (rdN st most).1 = (rdN st most).1.toNat := by unfold clampN; omega
  rw [this]; exact h2
theorem rdT_some {st : Stt} {most : Nat} {r : List UInt8} (hm : most ≤ 1099511627776) (h : (rdT st most).2 = some r) : ∃ l, st = some l ∧ l = textL (rdT st most).1 ++ r := by
  unfold rdT at h ⊢
  split at h
  · cases h
  · rename_i b
    split at h
    · cases h
    · rename_i t r' hp
      cases h
      refine ⟨b, rfl, ?_⟩
      unfold textP at hp
      split at hp
      · cases hp
      · rename_i n q hq
        split at hp
        · cases hp
        · rename_i hlt
          cases hp
          obtain ⟨h1, h2⟩ := numL_numP hq
          unfold textL numI
          have : (q.take n).length = n := by simp; omega
          rw [this, clampN_nat (by omega), List.append_assoc, List.take_append_drop]
          exact h2
theorem rdSeqs_some : ∀ {k : Nat} {st : Stt} {r : List UInt8}, (rdSeqs k st).2 = some r → ∃ l, st = some l ∧ l = numsL (rdSeqs k st).1 ++ r
  | 0, st, r, h => ⟨r, h, rfl⟩
  | k + 1, st, r, h => by
    obtain ⟨m, h1, h2⟩ := rdN_numI (by decide) (show (rdN (rdSeqs k st).2 1099511627776).2 = some r from h)
    obtain ⟨l, h3, h4⟩ := rdSeqs_some h1
    refine ⟨l, h3, ?_⟩
    rw [h4, h2]
    show _ = numsL ((rdSeqs k st).1 ++ [(rdN (rdSeqs k st).2 1099511627776).1]) ++ r
    rw [numsL_append, numsL_one, List.append_assoc]
theorem encEs_snoc (l : List Ent) (x : Ent) : encEs (l ++ [x]) = encEs l ++ encE x := by simp [encEs]
theorem rdEnts_some : ∀ {k : Nat} {st : Stt} {r : List UInt8}, (rdEnts k st).2 = some r → ∃ l, st = some l ∧ l = encEs (rdEnts k st).1 ++ r
  | 0, st, r, h => ⟨r, h, rfl⟩
  | k + 1, st, r, h => by
    obtain ⟨m, h1, h2⟩ := rdN_numI (by decide) (show (rdN (rdT (rdEnts k st).2 8).2 11).2 = some r from h)
    obtain ⟨m2, h5, h6⟩ := rdT_some (by decide) h1
    obtain ⟨l, h3, h4⟩ := rdEnts_some h5
    refine ⟨l, h3, ?_⟩
    rw [h4, h6, h2]
    show _ = encEs ((rdEnts k st).1 ++ [⟨ba (rdT (rdEnts k st).2 8).1, (rdN (rdT (rdEnts k st).2 8).2 11).1⟩]) ++ r
    rw [encEs_snoc]
    simp only [encE, bl_ba, List.append_assoc]
theorem rdNod_some {st : Stt} {r : List UInt8} (h : (rdNod st).2 = some r) : ∃ l, st = some l ∧ l = encN (rdNod st).1 ++ r := by
  by_cases h1 : (rdN st 2).1 = 1
  · have hD : rdNod st = rdFile (rdN st 2).2 := by unfold rdNod; rw [if_pos h1]
    rw [hD] at h ⊢
    obtain ⟨l3, a3, b3⟩ := rdSeqs_some (show (rdSeqs 5 (rdN (rdN (rdN st 2).2 120).2 80).2).2 = some r from h)
    obtain ⟨l2, a2, b2⟩ := rdN_numI (by decide) a3
    obtain ⟨l1, a1, b1⟩ := rdN_numI (by decide) a2
    obtain ⟨l0, a0, b0⟩ := rdN_numI (by decide) a1
    refine ⟨l0, a0, ?_⟩
    rw [b0, b1, b2, b3, h1]
    rw [encN_1 rfl]
    simp only [rdFile, List.append_assoc]
  · by_cases h2 : (rdN st 2).1 = 2
    · have hD : rdNod st = rdDir (rdN st 2).2 := by unfold rdNod; rw [if_neg h1, if_pos h2]
      rw [hD] at h ⊢
      obtain ⟨l2, a2, b2⟩ := rdEnts_some (show (rdEnts (rdN (rdN st 2).2 10).1.toNat (rdN (rdN st 2).2 10).2).2 = some r from h)
      obtain ⟨l1, a1, b1⟩ := rdN_numI (by decide) a2
      obtain ⟨l0, a0, b0⟩ := rdN_numI (by decide) a1
      refine ⟨l0, a0, ?_⟩
      rw [b0, b1, b2, h2]
      have hr := rdN_range (rdN st 2).2 10
      have e : (((rdEnts (rdN (rdN st 2).2 10).1.toNat (rdN (rdN st 2).2 10).2).1.length : Nat) : Int) = (rdN (rdN st 2).2 10).1 := by rw [rdEnts_len]; omega
      rw [encN_2 rfl]
      simp only [rdDir, e, List.append_assoc]
    · have hD : rdNod st = (⟨(rdN st 2).1, 0, 0, [], []⟩, (rdN st 2).2) := by unfold rdNod; rw [if_neg h1, if_neg h2]
      rw [hD] at h ⊢
      obtain ⟨l0, a0, b0⟩ := rdN_numI (by decide) (show (rdN st 2).2 = some r from h)
      refine ⟨l0, a0, ?_⟩
      rw [encN_0 h1 h2]
      exact b0
theorem encT_snoc (t : Tre) (n : Nod) : encT (t ++ [n]) = encT t ++ encN n := by simp [encT]
theorem rdTre_some : ∀ {k : Nat} {st : Stt} {r : List UInt8}, (rdTre k st).2 = some r → ∃ l, st = some l ∧ l = encT (rdTre k st).1 ++ r
  | 0, st, r, h => ⟨r, h, rfl⟩
  | k + 1, st, r, h => by
    obtain ⟨m, h1, h2⟩ := rdNod_some (show (rdNod (rdTre k st).2).2 = some r from h)
    obtain ⟨l, h3, h4⟩ := rdTre_some h1
    refine ⟨l, h3, ?_⟩
    rw [h4, h2]
    show _ = encT ((rdTre k st).1 ++ [(rdNod (rdTre k st).2).1]) ++ r
    rw [encT_snoc, List.append_assoc]
/-- What was read is just what these bytes say. -/
theorem parseT_enc {l : List UInt8} {t : Tre} (h : parseT l = some t) : mayT t = true ∧ encT t = l := by
  unfold parseT at h
  split at h
  · rename_i hc
    cases h
    obtain ⟨m, h1, h2⟩ := rdTre_some hc.1
    cases h1
    exact ⟨hc.2, by rw [List.append_nil] at h2; exact h2.symm⟩
  · cases h
theorem rdTre_len : ∀ (k : Nat) (st : Stt), (rdTre k st).1.length = k
  | 0, _ => rfl
  | k + 1, st => by simp [rdTre, rdTre_len k st]
end Go.Proofs.YtpalkdmngckcoaaDoor

/- Contracts of package root: trees to bytes and back. -/
namespace Go.Proofs.YtpalkdmngckcoaaDoor
open Go
/-- As app1, what the reader's own block holds left out. -/
theorem app2 {α : Type} [Rep α] {V V0 : View} {p r : Nat} {st : Stt} {x : Sl} {e : TypeId} {bytes : Nat} {zero : List Value} {cs vs : List Value} {l : List α} {d : α} {C : Sl → View → Prop} {ob : Obj} {te : TypeId}
    (hz : zero.length = Rep.sz α) (hb : Buf V x e (Rep.sz α) cs) (hr : repL ((V.minus x).hide p) cs l) (hd : Rep.rep ((V.minus x).hide p) vs d) (hR : Rd (V.minus x) p st) (hle : V0.Le ((V.minus x).hide p)) (hnew : V.size ≤ r) (hob : ob = .cells ⟨vs⟩ te (0, 0))
    (hm : (x.n + 1) * bytes ≤ 140737488355328) (hm2 : x.n + 1 ≤ 140737488355328)
    (hC : ∀ s V' cs', Buf V' s e (Rep.sz α) cs' → repL ((V'.minus s).hide p) cs' (l ++ [d]) → Rd (V'.minus s) p st → V0.Le ((V'.minus s).hide p) → C s V') :
    apV (V.put r ob) e (Rep.sz α) bytes zero x (.slice (some ⟨r, 0, none⟩) 1 1) C := by
  subst hob
  have hfr : V.see r = none := View.see_none_of_ge hnew
  have hvl : vs.length = Rep.sz α := Rep.len hd
  refine apV_buf hz (hb.put hfr) (src := vs) (m := 1) ⟨rfl, rowAt_new (View.see_put_same _ _ _) (by rw [Nat.one_mul]; exact hvl)⟩ (by rw [Nat.one_mul]; exact hvl) (Rep.one hd) hm hm2 fun s V' hb' _ hle' => ?_
  have h1 : (V.minus x).Le (V'.minus s) := (put_minus_le hfr).trans hle'
  exact hC s V' _ hb' ((hr.mono (hide_mono h1 p)).snoc (Rep.mono (hide_mono h1 p) hd)) (hR.mono h1) (hle.trans (hide_mono h1 p))
/-- What Parse answers. -/
def ParseR (V : View) (o : Option Tre) (x : Sl) (e : Int) : Prop := match o with
  | none => x = ⟨none, 0, 0⟩ ∧ e = 5
  | some t => SlR V x t ∧ e = 0
theorem parse_ok {s : Sl} {l : List UInt8} {V : View} (h : SlR V s l) (hl : l.length ≤ 140737488350000) : CallV Tryd.prog 53 ⟨[.slice s.a s.n s.c]⟩ V fun r V' => ∃ (x : Sl) (e : Int), r = .tuple ⟨[treV x, .int .i64 e]⟩ ∧ ParseR V' (parseT l) x e ∧ V.Le V' := by
  refine f53_x ?_
  unfold f53_n
  refine fun _ => (newReader_ok h hl).mono ?_
  rintro r V1 ⟨p, rfl, hR1, hV1⟩
  refine ⟨_, rfl, fun _ => ?_⟩
  refine loop2 (k := .int .i64) (l := .sl) (fun (x : Int) (s : Sl) V' => ∃ (i : Nat) (cs : List Value), x = i ∧ i ≤ 12 ∧ Buf V' s 31 5 cs ∧ repL ((V'.minus s).hide p) cs (rdTre i (some l)).1 ∧ Rd (V'.minus s) p (rdTre i (some l)).2 ∧ V.Le ((V'.minus s).hide p)) (fun (x : Int) _ _ => 12 - x.toNat) ⟨0, [], rfl, by omega, Buf.nil _ _ _, rfl, hR1, hV1⟩ ?_
  rintro (x : Int) (y : Sl) V2 ⟨i, cs, rfl, hi, hb, hr, hR2, hV2⟩
  have q2 : V.Le V2 := hV2.trans ((View.hide_le _ _).trans (View.minus_le _ _))
  refine br_intro (fun hlt => ?_) (fun hge => ?_)
  · have hlt : i < 12 := by have := of_decide_eq_true hlt; omega
    have hn := hb.n_eq hr
    rw [rdTre_len] at hn
    refine ⟨trivial, V, q2, ((rdNod_ok hR2).besideB hb).mono ?_⟩
    rintro r V3 ⟨U, ⟨sq, en, rfl, hN, hR3, hV3⟩, hU, hb3⟩
    have hV3' : ((V2.minus y).hide p).Le ((V3.minus y).hide p) := hV3.trans (hide_mono hU p)
    have q3 : V.Le V3 := (hV2.trans hV3').trans ((View.hide_le _ _).trans (View.minus_le _ _))
    refine ⟨_, _, _, sq, en, rfl, q3, fun r hr1 => ⟨q3.trans (View.put_le (View.see_none_of_ge hr1)), ?_⟩⟩
    refine app2 (α := Nod) rfl hb3 (hr.mono hV3') (hN.mono (hide_mono hU p)).rep (hR3.mono hU) (hV2.trans hV3') hr1 rfl (by show (y.n + 1) * 72 ≤ _; omega) (by show y.n + 1 ≤ _; omega) ?_
    intro s4 V4 cs4 hb4 hr4 hR4 hV4
    exact ⟨inI64 (by omega) (by omega), ⟨i + 1, cs4, by omega, by omega, hb4, hr4, hR4, hV4⟩, by omega⟩
  · have hge : i = 12 := by have := of_decide_eq_false hge; omega
    subst hge
    have hRd : Rd V2 p (rdTre 12 (some l)).2 := hR2.mono (View.minus_le _ _)
    have hsl : SlR V2 y (rdTre 12 (some l)).1 := hb.slR hr ((View.hide_le _ _).trans (View.minus_le _ _))
    refine (err_ok hRd).mono ?_
    rintro r V3 ⟨rfl, rfl⟩
    refine ⟨_, rfl, ?_⟩
    cases hst : (rdTre 12 (some l)).2 with
    | none =>
      have hP : parseT l = none := by unfold parseT; rw [hst]; simp
      refine br_intro (fun _ => (err_ok hRd).mono ?_) (fun h => absurd h (by simp))
      rintro r V4 ⟨rfl, rfl⟩
      rw [hst]
      exact ⟨_, rfl, ⟨none, 0, 0⟩, 5, rfl, by rw [hP]; exact ⟨rfl, rfl⟩, q2⟩
    | some rest =>
      rw [hst] at hRd
      refine br_intro (fun h => absurd h (by simp)) (fun _ => ?_)
      refine joinP_cut (fun q V' => q.1 = (!decide (rest = [] ∧ mayT (rdTre 12 (some l)).1 = true)) ∧ V3.Le V') ((left_ok hRd).mono ?_) ?_
      · rintro r V4 ⟨rfl, rfl⟩
        refine ⟨_, rfl, br_intro (fun h0 => ⟨?_, View.Le.refl _⟩) (fun h0 => (mayT_ok hsl).mono ?_)⟩
        · have h0 : rest ≠ [] := by
            intro e; rw [e] at h0; exact absurd h0 (by simp)
          rw [decide_eq_false (by rintro ⟨h1, _⟩; exact h0 h1)]; rfl
        · have h0 : rest = [] := by
            have := of_decide_eq_false h0
            exact List.eq_nil_of_length_eq_zero (by omega)
          rintro r V5 ⟨rfl, hV5⟩
          refine ⟨_, rfl, ?_, hV5⟩
          subst h0
          simp
      · rintro ⟨q, ⟨⟩⟩ V4 ⟨h1, hV⟩
        simp only at h1 hV
        subst h1
        dsimp only [unc]
        refine br_intro (fun hb => ⟨⟨none, 0, 0⟩, 5, rfl, ?_, q2.trans hV⟩) (fun hb => ⟨y, 0, rfl, ?_, q2.trans hV⟩)
        · have hb := of_decide_eq_false (not_t hb)
          have hP : parseT l = none := by unfold parseT; rw [hst, if_neg (by rintro ⟨h1, h2⟩; cases h1; exact hb ⟨rfl, h2⟩)]
          rw [hP]; exact ⟨rfl, rfl⟩
        · have hb := of_decide_eq_true (not_f hb)
          have hP : parseT l = some (rdTre 12 (some l)).1 := by unfold parseT; rw [hst, hb.1, if_pos ⟨rfl, hb.2⟩]
          rw [hP]; exact ⟨hsl.mono hV, rfl⟩
/-! ### to bytes -/
theorem encE_len (x : Ent) : (encE x).length ≤ 14 + x.name.size := by
  unfold encE textL
  have h1 := numI_len ((bl x.name).length : Nat)
  have h2 := numI_len x.node
  simp only [List.length_append, bl_len] at *
  omega
theorem encEs_len : ∀ {l : List Ent}, (∀ x ∈ l, x.name.size ≤ 8) → (encEs l).length ≤ 22 * l.length
  | [], _ => by simp [encEs]
  | x :: l, h => by
    have h1 := encEs_len (l := l) fun y hy => h y (by simp [hy])
    have h2 := encE_len x
    have h3 := h x (by simp)
    have e : encEs (x :: l) = encE x ++ encEs l := by simp [encEs]
    rw [e, List.length_append, List.length_cons]; omega
theorem may_names {n : Nod} (h : mayN n = true) : ∀ x ∈ n.ents, x.name.size ≤ 8 := fun _ hx => (mayB_size (mayL_node (mayN_ents h) hx).2.2).2
theorem encN_len {n : Nod} (h : mayN n = true) : (encN n).length ≤ 240 := by
  have h1 := mayN_seqs h
  have h2 := mayL_len (mayN_ents h)
  have h3 := encEs_len (may_names h)
  have h4 := numsL_len n.seqs
  have a := numI_len n.kind
  have b := numI_len n.links
  have c := numI_len n.size
  have d := numI_len (n.ents.length : Nat)
  unfold encN
  split
  · simp only [List.length_append]; omega
  · split
    · simp only [List.length_append]; omega
    · simp; omega
theorem encT_len : ∀ {t : Tre}, (∀ n ∈ t, mayN n = true) → (encT t).length ≤ 240 * t.length
  | [], _ => by simp [encT]
  | n :: t, h => by
    have h1 := encT_len (t := t) fun y hy => h y (by simp [hy])
    have h2 := encN_len (h n (by simp))
    have e : encT (n :: t) = encN n ++ encT t := by simp [encT]
    rw [e, List.length_append, List.length_cons]; omega
theorem encT_take {t : Tre} {i : Nat} (h : i < t.length) : encT (t.take (i + 1)) = encT (t.take i) ++ encN (t.getD i default) := by
  rw [List.take_add_one, List.getElem?_eq_getElem h, getD_at h]
  exact encT_snoc _ _
/-- Numbers in a new block. -/
theorem newInts {V : View} {r : Nat} {l : List Int} (hl : ∀ n ∈ l, inI .i64 n) (hl2 : l.length ≤ 140737488355328) {ob : Obj} (ho : ob = .cells ⟨intsV l⟩ 3 (0, 0)) : SlR (V.put r ob) ⟨some ⟨r, 0, none⟩, l.length, l.length⟩ l :=
  slR_block (W := V.put r ob) (by rw [View.see_put_same, ho]) (rows_int hl) (View.Le.refl _) hl2
/-- A string's bytes in a new block. -/
theorem newBytes {V : View} {r cap : Nat} {b : ByteArray} {more : List Value} {f : Nat × Nat} (hc : b.size ≤ cap) (hm : b.size ≤ 140737488355328) : SlR (V.put r (.cells ⟨bytesV b ++ more⟩ 5 f)) ⟨some ⟨r, 0, none⟩, b.size, cap⟩ (bl b) := by
  refine ⟨(bl_len b).symm, hc, by show b.size ≤ _; omega, fun i hi => ?_⟩
  refine ⟨⟨r, 0, none⟩, [.int .u8 (bl b)[i].toNat], rfl, ?_, rfl⟩
  rw [cellsAt_one]
  show View.cell? _ ((⟨r, 0, none⟩ : Addr).add (i * 1)) = _
  rw [addr0_add]
  refine cell_of_see (View.see_put_same _ _ _) ?_
  have hb : (bytesV b).length = (bl b).length := by simp [bytesV]
  rw [Nat.zero_add, Nat.mul_one, List.getElem?_append_left (by rw [hb]; exact hi)]
  unfold bytesV
  rw [List.getElem?_map, List.getElem?_eq_getElem hi]
  rfl
/-- What Bytes answers. -/
def BytesR (V : View) (g : Bool) (t : Tre) (x : Sl) (e : Int) : Prop := match g with
  | false => x = ⟨none, 0, 0⟩ ∧ e = 1
  | true => SlR V x (encT t) ∧ e = 0
theorem bytes_ok {s : Sl} {t : Tre} {V : View} (h : SlR V s t) : CallV Tryd.prog 52 ⟨[treV s]⟩ V fun r V' => ∃ (x : Sl) (e : Int), r = .tuple ⟨[.slice x.a x.n x.c, .int .i64 e]⟩ ∧ BytesR V' (mayT t) t x e ∧ V.Le V' := by
  refine f52_x ?_
  unfold f52_n
  refine fun _ => (mayT_ok h).mono ?_
  rintro r V1 ⟨rfl, hV1⟩
  refine ⟨_, rfl, br_intro (fun hb => ⟨⟨none, 0, 0⟩, 1, rfl, by rw [not_t hb]; exact ⟨rfl, rfl⟩, hV1⟩) (fun hb => ?_)⟩
  have hM := not_f hb
  rw [hM]
  have hM' := hM
  unfold mayT at hM'
  simp only [Bool.and_eq_true, decide_eq_true_eq, List.all_eq_true] at hM'
  obtain ⟨⟨⟨⟨h12, hall⟩, _⟩, _⟩, _⟩ := hM'
  have hn := h.n
  refine loop2 (k := .sl) (l := .int .i64) (fun (x : Sl) (j : Int) V' => ∃ i : Nat, j = i ∧ i ≤ 12 ∧ SlR V' x (encT (t.take i)) ∧ V.Le V') (fun _ (j : Int) _ => 12 - j.toNat) ⟨0, rfl, by omega, SlR.nil _ _ _, hV1⟩ ?_
  rintro (x : Sl) (j : Int) V2 ⟨i, rfl, hi, hx, hV2⟩
  refine br_intro (fun hlt => ?_) (fun hge => ?_)
  · have hlt : i < 12 := by have := of_decide_eq_true hlt; omega
    obtain ⟨ad, sq, en, ha, hc, hN⟩ := (h.mono hV2).nodN (i := i) (by omega)
    have hmem : t.getD i default ∈ t := by rw [getD_at (by omega)]; exact List.getElem_mem _
    have hMN := hall _ hmem
    have hlen : (encT (t.take i)).length ≤ 240 * 12 := by
      refine Nat.le_trans (encT_len fun n hn => hall n (List.mem_of_mem_take hn)) (Nat.mul_le_mul_left _ (by simp; omega))
    have hs5 := mayN_seqs hMN
    have he10 := mayL_len (mayN_ents hMN)
    have hnm := may_names hMN
    have htk := encT_take (t := t) (i := i) (by omega)
    refine ⟨by omega, by omega, ad, ha, _, _, _, sq, en, hc, fun _ => fun r hr => ?_⟩
    generalize t.getD i default = nd at *
    generalize hL : encT (t.take i) = L at *
    have hfr := View.see_none_of_ge hr
    have hp := View.put_le (o := .cells ⟨putL [.int .i64 0] 0 [.int .i64 nd.kind]⟩ 3 (0, 0)) hfr
    refine (numbers8_ok (hx.mono hp) (newInts (l := [nd.kind]) (by simpa using hN.kind) (by simp) rfl) (by show L.length + 7 * 1 ≤ _; omega)).mono ?_
    rintro r V3 ⟨y, rfl, hV3, hy⟩
    rw [numsL_one] at hy
    have hV23 := hp.trans hV3
    have k1 := numI_len nd.kind
    refine ⟨y, rfl, ?_⟩
    refine joinP_cut (fun q V' => SlR V' q.1 (L ++ encN nd) ∧ V3.Le V') (br_intro (fun h1 => ?_) (fun h1 => ?_)) ?_
    · have h1 : nd.kind = 1 := of_decide_eq_true h1
      rw [encN_1 h1]
      rw [h1] at hy
      have k2 := numI_len 1
      refine ⟨trivial, V3, View.Le.refl _, fun r2 hr2 => ?_⟩
      have hp2 := View.put_le (o := .cells ⟨putL (putL [.int .i64 0, .int .i64 0] 0 [.int .i64 nd.links]) 1 [.int .i64 nd.size]⟩ 3 (0, 0)) (View.see_none_of_ge hr2)
      refine ⟨hp2, (numbers8_ok (hy.mono hp2) (newInts (l := [nd.links, nd.size]) (by intro n hn; simp at hn; rcases hn with rfl | rfl; exact hN.links; exact hN.size) (by simp) rfl) (by show (L ++ numI 1).length + 7 * 2 ≤ _; rw [List.length_append]; omega)).mono ?_⟩
      rintro r V4 ⟨z, rfl, hV4, hz⟩
      have k3 := numsL_len [nd.links, nd.size]
      refine ⟨z, rfl, hp2.trans hV4, (numbers8_ok hz (hN.seqs.mono (hV23.trans (hp2.trans hV4))) (by simp only [List.length_append, List.length_cons, List.length_nil] at *; omega)).mono ?_⟩
      rintro r V5 ⟨w, rfl, hV5, hw⟩
      refine ⟨w, rfl, ?_, (hp2.trans hV4).trans hV5⟩
      have e : numsL [nd.links, nd.size] = numI nd.links ++ numI nd.size := by simp [numsL]
      rw [e] at hw
      simpa [List.append_assoc] using hw
    · have h1 : ¬ nd.kind = 1 := of_decide_eq_false h1
      refine joinP_cut (fun q V' => SlR V' q.1 (L ++ encN nd) ∧ V3.Le V') (br_intro (fun h2 => ?_) (fun h2 => ⟨?_, View.Le.refl _⟩)) ?_
      · have h2 : nd.kind = 2 := of_decide_eq_true h2
        rw [encN_2 h2]
        rw [h2] at hy
        have k2 := numI_len 2
        have k3 := numI_len (nd.ents.length : Nat)
        have hen := hN.ents.n
        rw [hen]
        intro r2 hr2
        have hp2 := View.put_le (o := .cells ⟨putL [.int .i64 0] 0 [.int .i64 (nd.ents.length : Nat)]⟩ 3 (0, 0)) (View.see_none_of_ge hr2)
        refine (numbers8_ok (hy.mono hp2) (newInts (l := [((nd.ents.length : Nat) : Int)]) (by intro n hn; simp at hn; subst hn; exact inI64 (by omega) (by omega)) (by simp) rfl) (by show (L ++ numI 2).length + 7 * 1 ≤ _; rw [List.length_append]; omega)).mono ?_
        rintro r V4 ⟨z, rfl, hV4, hz⟩
        rw [numsL_one] at hz
        refine ⟨z, rfl, ?_⟩
        refine loop2 (k := .sl) (l := .int .i64) (fun (x : Sl) (j : Int) V' => ∃ k : Nat, j = k ∧ k ≤ nd.ents.length ∧ SlR V' x (L ++ numI 2 ++ numI (nd.ents.length : Nat) ++ encEs (nd.ents.take k)) ∧ V3.Le V') (fun _ (j : Int) _ => nd.ents.length - j.toNat) ⟨0, rfl, by omega, by simpa [encEs] using hz, hp2.trans hV4⟩ ?_
        rintro (w : Sl) (j : Int) V5 ⟨k, rfl, hk, hw, hV5⟩
        refine br_intro (fun hlt => ?_) (fun hge => ?_)
        · have hlt : k < nd.ents.length := by have := of_decide_eq_true hlt; omega
          obtain ⟨ad2, ha2, hc2, _, hin2⟩ := (hN.ents.mono (hV23.trans hV5)).entN hlt
          have hxm : nd.ents.getD k default ∈ nd.ents := by rw [getD_at hlt]; exact List.getElem_mem _
          have hsz := hnm _ hxm
          have etk : nd.ents.take (k + 1) = nd.ents.take k ++ [nd.ents.getD k default] := by rw [List.take_add_one, List.getElem?_eq_getElem hlt, getD_at hlt]; rfl
          have kes : (encEs (nd.ents.take k)).length ≤ 22 * (nd.ents.take k).length := encEs_len fun y hy => hnm y (List.mem_of_mem_take hy)
          rw [List.length_take] at kes
          refine ⟨by omega, by omega, ad2, ha2, _, _, hc2, fun _ => ?_⟩
          generalize nd.ents.getD k default = e at *
          generalize hW : L ++ numI 2 ++ numI (nd.ents.length : Nat) ++ encEs (nd.ents.take k) = W at *
          have hWl : W.length ≤ 4000 := by rw [← hW]; simp only [List.length_append]; omega
          have hbl := bl_len e.name
          have ktl : (textL (bl e.name)).length ≤ 15 := by
            unfold textL
            have := numI_len ((bl e.name).length : Nat)
            simp only [List.length_append]; omega
          have fin : ∀ {V6 : View} {u : Sl}, SlR V6 u (W ++ textL (bl e.name) ++ numsL [e.node]) → SlR V6 u (W ++ encE e) := fun hu => by
            rw [numsL_one, List.append_assoc] at hu; exact hu
          refine joinP_cut (fun q V' => SlR V' q.1 (W ++ encE e) ∧ V5.Le V') ⟨trivial, V5, View.Le.refl _, ?_, ?_⟩ ?_
          · intro cap hcap r3 hr3
            have hp3 := View.put_le (o := .cells ⟨bytesV e.name ++ List.replicate (cap - e.name.size) (.int .u8 0)⟩ 5 (cap, Nat.succ (Nat.add cap 0))) (View.see_none_of_ge hr3)
            have hbs := newBytes (V := V5) (r := r3) (cap := cap) (b := e.name) (more := List.replicate (cap - e.name.size) (.int .u8 0)) (f := (cap, Nat.succ (Nat.add cap 0))) hcap (by omega)
            refine ⟨hp3, ?_, ?_⟩
            · refine (text8_ok (hw.mono hp3) hbs (by omega)).mono ?_
              rintro r V6 ⟨u, rfl, hu⟩
              refine ⟨u, rfl, hp3.trans hu.vle, fun r4 hr4 => ?_⟩
              have hp4 := View.put_le (o := .cells ⟨putL [.int .i64 0] 0 [.int .i64 e.node]⟩ 3 (0, 0)) (View.see_none_of_ge hr4)
              refine ⟨(hp3.trans hu.vle).trans hp4, (numbers8_ok (hu.slR.mono hp4) (newInts (l := [e.node]) (by simpa using hin2) (by simp) rfl) (by simp only [List.length_append, List.length_cons, List.length_nil]; omega)).mono ?_⟩
              rintro r V7 ⟨v, rfl, hV7, hv⟩
              exact ⟨v, rfl, fin hv, ((hp3.trans hu.vle).trans hp4).trans hV7⟩
            · intro r4 hr4
              have hp4 := View.put_le (o := .cells ⟨putL [.int .i64 0] 0 [.int .i64 e.node]⟩ 3 (0, 0)) (View.see_none_of_ge hr4)
              refine ⟨hp3.trans hp4, (text8_ok (hw.mono (hp3.trans hp4)) (hbs.mono hp4) (by omega)).mono ?_⟩
              rintro r V6 ⟨u, rfl, hu⟩
              have hns : SlR V6 ⟨some ⟨r4, 0, none⟩, 1, 1⟩ [e.node] := (newInts (l := [e.node]) (by simpa using hin2) (by simp) rfl).mono hu.vle
              refine ⟨u, rfl, (hp3.trans hp4).trans hu.vle, (numbers8_ok hu.slR hns (by simp only [List.length_append, List.length_cons, List.length_nil]; omega)).mono ?_⟩
              rintro r V7 ⟨v, rfl, hV7, hv⟩
              exact ⟨v, rfl, fin hv, ((hp3.trans hp4).trans hu.vle).trans hV7⟩
          · intro r4 hr4
            have hp4 := View.put_le (o := .cells ⟨putL [.int .i64 0] 0 [.int .i64 e.node]⟩ 3 (0, 0)) (View.see_none_of_ge hr4)
            refine ⟨hp4, fun cap hcap r3 hr3 => ?_⟩
            have hp3 := View.put_le (o := .cells ⟨bytesV e.name ++ List.replicate (cap - e.name.size) (.int .u8 0)⟩ 5 (cap, Nat.succ (Nat.add cap 0))) (View.see_none_of_ge hr3)
            have hbs := newBytes (V := V5.put r4 (.cells ⟨putL [.int .i64 0] 0 [.int .i64 e.node]⟩ 3 (0, 0))) (r := r3) (cap := cap) (b := e.name) (more := List.replicate (cap - e.name.size) (.int .u8 0)) (f := (cap, Nat.succ (Nat.add cap 0))) hcap (by omega)
            refine ⟨hp4.trans hp3, (text8_ok (hw.mono (hp4.trans hp3)) hbs (by omega)).mono ?_⟩
            rintro r V6 ⟨u, rfl, hu⟩
            have hns : SlR V6 ⟨some ⟨r4, 0, none⟩, 1, 1⟩ [e.node] := (newInts (l := [e.node]) (by simpa using hin2) (by simp) rfl).mono (hp3.trans hu.vle)
            refine ⟨u, rfl, (hp4.trans hp3).trans hu.vle, (numbers8_ok hu.slR hns (by simp only [List.length_append, List.length_cons, List.length_nil]; omega)).mono ?_⟩
            rintro r V7 ⟨v, rfl, hV7, hv⟩
            exact ⟨v, rfl, fin hv, ((hp4.trans hp3).trans hu.vle).trans hV7⟩
          · rintro ⟨q, ⟨⟩⟩ V6 ⟨hq, hV6⟩
            refine ⟨inI64 (by omega) (by omega), ⟨k + 1, by omega, by omega, ?_, hV5.trans hV6⟩, by omega⟩
            rw [etk, encEs_snoc, ← List.append_assoc, hW]; exact hq
        · have hge : k = nd.ents.length := by have := of_decide_eq_false hge; omega
          subst hge
          rw [List.take_length] at hw
          refine ⟨?_, hV5⟩
          simpa [List.append_assoc] using hw
      · have h2 : ¬ nd.kind = 2 := of_decide_eq_false h2
        rw [encN_0 h1 h2]; exact hy
      · rintro ⟨q, ⟨⟩⟩ V4 hq
        exact hq
    · rintro ⟨q, ⟨⟩⟩ V4 ⟨hq, hV4⟩
      refine ⟨inI64 (by omega) (by omega), ⟨i + 1, by omega, by omega, ?_, hV2.trans (hV23.trans hV4)⟩, by omega⟩
      rw [htk]; exact hq
  · have hge : i = 12 := by have := of_decide_eq_false hge; omega
    subst hge
    rw [List.take_of_length_le (by omega)] at hx
    exact ⟨x, 0, rfl, ⟨hx, rfl⟩, hV2⟩
end Go.Proofs.YtpalkdmngckcoaaDoor

/- Contracts: equal rows, equal trees. -/
namespace Go.Proofs.YtpalkdmngckcoaaDoor
open Go
theorem equalI_ok {s t : Sl} {l m : List Int} {V : View} (h : SlR V s l) (k : SlR V t m) : CallV Tryd.prog 60 ⟨[.slice s.a s.n s.c, .slice t.a t.n t.c]⟩ V fun r V' => r = .bool (decide (l = m)) ∧ V' = V := by
  refine f60_x ?_
  unfold f60_n
  have hn := h.n; have hlim := h.lim; have kn := k.n
  refine br_intro (fun hne => ⟨?_, rfl⟩) (fun heq => ?_)
  · have hne : ¬ (s.n : Int) = t.n := by simpa using hne
    rw [decide_eq_false]
    intro e; subst e; omega
  have heq : (s.n : Int) = t.n := by simpa using heq
  refine loop1 (k := .int .i64) (fun (x : Int) V' => V' = V ∧ 0 ≤ x ∧ x ≤ s.n ∧ l.take x.toNat = m.take x.toNat) (fun (x : Int) _ => s.n - x.toNat) ⟨rfl, by omega, by omega, rfl⟩ ?_
  rintro (x : Int) V' ⟨rfl, h0, h1, h2⟩
  refine br_intro (fun hlt => ?_) (fun hge => ?_)
  · have hlt : x < s.n := by simpa using hlt
    obtain ⟨ad, hx, ha, hc, _⟩ := h.int h0 hlt
    obtain ⟨ad', hx', ha', hc', _⟩ := k.int h0 (by omega)
    refine ⟨trivial, V', View.Le.refl _, h0, hlt, ad, ha, _, hc, h0, by omega, ad', ha', _, hc', br_intro (fun hb => ⟨?_, rfl⟩) (fun hb => ⟨inI64 (by omega) (by omega), ⟨rfl, by omega, by omega, ?_⟩, by omega⟩)⟩
    · have hb : ¬ l[x.toNat] = m[x.toNat] := by simpa using hb
      rw [decide_eq_false]
      intro e; subst e; exact hb rfl
    · have hb : l[x.toNat] = m[x.toNat] := by simpa using hb
      rw [show (x + 1).toNat = x.toNat + 1 by omega, List.take_add_one, List.take_add_one, h2, List.getElem?_eq_getElem hx, List.getElem?_eq_getElem hx', hb]
  · have hge : ¬ x < s.n := by simpa using hge
    rw [List.take_of_length_le (by omega), List.take_of_length_le (by omega)] at h2
    exact ⟨by rw [h2]; simp, rfl⟩
theorem ent_eq {x y : Ent} : (decide (x.name = y.name) && (decide (x.node = y.node) && true)) = decide (x = y) := by
  cases x; cases y
  rw [Bool.eq_iff_iff]; simp
theorem equalE_ok {s t : Sl} {l m : List Ent} {V : View} (h : SlR V s l) (k : SlR V t m) : CallV Tryd.prog 61 ⟨[.slice s.a s.n s.c, .slice t.a t.n t.c]⟩ V fun r V' => r = .bool (decide (l = m)) ∧ V' = V := by
  refine f61_x ?_
  unfold f61_n
  have hn := h.n; have hlim := h.lim; have kn := k.n
  refine br_intro (fun hne => ⟨?_, rfl⟩) (fun heq => ?_)
  · have hne : ¬ (s.n : Int) = t.n := by simpa using hne
    rw [decide_eq_false]
    intro e; subst e; omega
  have heq : (s.n : Int) = t.n := by simpa using heq
  refine loop1 (k := .int .i64) (fun (x : Int) V' => V' = V ∧ 0 ≤ x ∧ x ≤ s.n ∧ l.take x.toNat = m.take x.toNat) (fun (x : Int) _ => s.n - x.toNat) ⟨rfl, by omega, by omega, rfl⟩ ?_
  rintro (x : Int) V' ⟨rfl, h0, h1, h2⟩
  refine br_intro (fun hlt => ?_) (fun hge => ?_)
  · have hlt : x < s.n := by simpa using hlt
    obtain ⟨ad, hx, ha, hc, _⟩ := h.ent h0 hlt
    obtain ⟨ad', hx', ha', hc', _⟩ := k.ent h0 (by omega)
    refine ⟨trivial, V', View.Le.refl _, h0, hlt, ad, ha, _, _, hc, h0, by omega, ad', ha', _, _, hc', trivial, ?_⟩
    rw [ent_eq]
    refine br_intro (fun hb => ⟨?_, rfl⟩) (fun hb => ⟨inI64 (by omega) (by omega), ⟨rfl, by omega, by omega, ?_⟩, by omega⟩)
    · have hb : ¬ l[x.toNat] = m[x.toNat] := by simpa using hb
      rw [decide_eq_false]
      intro e; subst e; exact hb rfl
    · have hb : l[x.toNat] = m[x.toNat] := by simpa using hb
      rw [show (x + 1).toNat = x.toNat + 1 by omega, List.take_add_one, List.take_add_one, h2, List.getElem?_eq_getElem hx, List.getElem?_eq_getElem hx', hb]
  · have hge : ¬ x < s.n := by simpa using hge
    rw [List.take_of_length_le (by omega), List.take_of_length_le (by omega)] at h2
    exact ⟨by rw [h2]; simp, rfl⟩
theorem nod_eq (a b : Nod) : decide (a = b) = (decide (a.kind = b.kind) && decide (a.links = b.links) && decide (a.size = b.size) && (decide (a.seqs = b.seqs) && decide (a.ents = b.ents))) := by
  cases a; cases b
  rw [Bool.eq_iff_iff]; simp [and_assoc]
theorem sameN_ok {a b : Nod} {s e s' e' : Sl} {V : View} (h : NodR V s e a) (k : NodR V s' e' b) : CallV Tryd.prog 39 ⟨[nodV a s e, nodV b s' e']⟩ V fun r V' => r = .bool (decide (a = b)) ∧ V' = V := by
  refine f39_x ?_
  unfold f39_n
  rw [nod_eq]
  refine fun _ _ => joinP_cut (fun q V' => q.1 = (decide (a.kind = b.kind) && decide (a.links = b.links) && decide (a.size = b.size) && (decide (a.seqs = b.seqs) && decide (a.ents = b.ents))) ∧ V' = V) (br_intro (fun hb => (equalI_ok h.seqs k.seqs).mono ?_) (fun hb => ⟨?_, rfl⟩)) ?_
  · have hb : (decide (a.kind = b.kind) && decide (a.links = b.links) && decide (a.size = b.size)) = true := by
      cases h1 : decide (a.kind = b.kind) <;> cases h2 : decide (a.links = b.links) <;> cases h3 : decide (a.size = b.size) <;> simp_all
    rw [hb]
    rintro r V1 ⟨rfl, rfl⟩
    refine ⟨_, rfl, br_intro (fun h1 => (equalE_ok h.ents k.ents).mono ?_) (fun h1 => ⟨by rw [h1]; rfl, rfl⟩)⟩
    rintro r V2 ⟨rfl, rfl⟩
    exact ⟨_, rfl, by rw [h1]; rfl, rfl⟩
  · have hb : (decide (a.kind = b.kind) && decide (a.links = b.links) && decide (a.size = b.size)) = false := by
      cases h1 : decide (a.kind = b.kind) <;> cases h2 : decide (a.links = b.links) <;> cases h3 : decide (a.size = b.size) <;> simp_all
    rw [hb]; rfl
  · rintro ⟨q, ⟨⟩⟩ V1 ⟨h1, hV⟩
    simp only at h1 hV
    subst h1 hV
    exact ⟨rfl, rfl⟩
theorem equalFuncN_ok {s t : Sl} {l m : List Nod} {V : View} {g : FuncId} {xs ys : List Value} (h : SlR V s l) (k : SlR V t m)
    (hp : ∀ a b s e s' e', NodR V s e a → NodR V s' e' b → CallV Tryd.prog g ⟨xs ++ [nodV a s e, nodV b s' e'] ++ ys⟩ V fun r V' => r = .bool (decide (a = b)) ∧ V' = V) :
    CallV Tryd.prog 38 ⟨[.slice s.a s.n s.c, .slice t.a t.n t.c, .func (.func g) ⟨xs⟩ ⟨ys⟩]⟩ V fun r V' => r = .bool (decide (l = m)) ∧ V' = V := by
  refine f38_x ?_
  unfold f38_n
  have hn := h.n; have hlim := h.lim; have kn := k.n
  refine br_intro (fun hne => ⟨?_, rfl⟩) (fun heq => ?_)
  · have hne : ¬ (s.n : Int) = t.n := by simpa using hne
    rw [decide_eq_false]
    intro e; subst e; omega
  have heq : (s.n : Int) = t.n := by simpa using heq
  refine loop1 (k := .int .i64) (fun (x : Int) V' => V' = V ∧ 0 ≤ x ∧ x ≤ s.n ∧ l.take x.toNat = m.take x.toNat) (fun (x : Int) _ => s.n - x.toNat) ⟨rfl, by omega, by omega, rfl⟩ ?_
  rintro (x : Int) V' ⟨rfl, h0, h1, h2⟩
  refine br_intro (fun hlt => ?_) (fun hge => ?_)
  · have hlt : x < s.n := by simpa using hlt
    obtain ⟨ad, sq, en, hx, ha, hc, hN⟩ := h.nod h0 hlt
    obtain ⟨ad', sq', en', hx', ha', hc', hN'⟩ := k.nod h0 (by omega)
    refine ⟨h0, hlt, ad, ha, _, _, _, sq, en, hc, fun _ => ⟨h0, by omega, ad', ha', _, _, _, sq', en', hc', fun _ => (hp _ _ _ _ _ _ hN hN').mono ?_⟩⟩
    rintro r V1 ⟨rfl, rfl⟩
    refine ⟨_, rfl, br_intro (fun hb => ⟨?_, rfl⟩) (fun hb => ⟨inI64 (by omega) (by omega), ⟨rfl, by omega, by omega, ?_⟩, by omega⟩)⟩
    · have hb : ¬ l[x.toNat] = m[x.toNat] := of_decide_eq_false (not_t hb)
      rw [decide_eq_false]
      intro e; subst e; exact hb rfl
    · have hb : l[x.toNat] = m[x.toNat] := of_decide_eq_true (not_f hb)
      rw [show (x + 1).toNat = x.toNat + 1 by omega, List.take_add_one, List.take_add_one, h2, List.getElem?_eq_getElem hx, List.getElem?_eq_getElem hx', hb]
  · have hge : ¬ x < s.n := by simpa using hge
    rw [List.take_of_length_le (by omega), List.take_of_length_le (by omega)] at h2
    exact ⟨by rw [h2]; simp, rfl⟩
theorem sameT_ok {s t : Sl} {l m : Tre} {V : View} (h : SlR V s l) (k : SlR V t m) : CallV Tryd.prog 16 ⟨[treV s, treV t]⟩ V fun r V' => r = .bool (decide (l = m)) ∧ V' = V := by
  refine f16_x ?_
  unfold f16_n
  refine fun _ _ => (equalFuncN_ok (xs := []) (ys := []) h k fun a b s e s' e' hN hN' => ?_).mono ?_
  · exact sameN_ok hN hN'
  · rintro r V' ⟨rfl, rfl⟩
    exact ⟨_, rfl, rfl, rfl⟩
end Go.Proofs.YtpalkdmngckcoaaDoor

/- Contracts: refs of nodes and trees. -/
namespace Go.Proofs.YtpalkdmngckcoaaDoor
open Go
/-- The refs of a file's first pages. -/
def refsK (i : Int) (n : Nod) (k : Nat) : List Rf := (List.range k).filterMap fun (j : Nat) => if n.seqs.getD j 0 = 0 then none else some ⟨1 + i * 5 + j, n.seqs.getD j 0⟩
/-- The refs of a node. -/
def refsN (i : Int) (n : Nod) : List Rf := if n.kind = 1 ∧ mayN n = true ∧ within i 11 = true then refsK i n n.seqs.length else []
/-- The refs of a tree. -/
def refsU (t : Tre) (k : Nat) : List Rf := (List.range k).flatMap fun (i : Nat) => refsN (i : Int) (t.getD i default)
noncomputable def refsT (t : Tre) : List Rf := if mayT t then refsU t t.length else []
theorem refsK_len (i : Int) (n : Nod) (k : Nat) : (refsK i n k).length ≤ k := by
  unfold refsK
  have := List.length_filterMap_le (fun (j : Nat) => if n.seqs.getD j 0 = 0 then none else some (⟨1 + i * 5 + j, n.seqs.getD j 0⟩ : Rf)) (List.range k)
  rwa [List.length_range] at this
theorem refsK_succ (i : Int) (n : Nod) (k : Nat) : refsK i n (k + 1) = refsK i n k ++ (if n.seqs.getD k 0 = 0 then [] else [⟨1 + i * 5 + k, n.seqs.getD k 0⟩]) := by
  unfold refsK
  rw [List.range_succ, List.filterMap_append]
  congr 1
  simp only [List.filterMap_cons, List.filterMap_nil]
  split <;> rename_i h <;> split at h <;> simp_all
theorem refsN_len (i : Int) (n : Nod) : (refsN i n).length ≤ 5 := by
  unfold refsN
  split
  · rename_i h
    exact Nat.le_trans (refsK_len _ _ _) (mayN_seqs h.2.1)
  · simp
theorem refsU_succ (t : Tre) (k : Nat) : refsU t (k + 1) = refsU t k ++ refsN k (t.getD k default) := by
  unfold refsU; rw [List.range_succ]; simp
theorem refsU_len (t : Tre) : ∀ k, (refsU t k).length ≤ 5 * k
  | 0 => by simp [refsU]
  | k + 1 => by
    rw [refsU_succ, List.length_append]
    have := refsU_len t k
    have := refsN_len k (t.getD k default)
    omega
structure rfL (cs : List Value) (l : List Rf) : Prop where
  rep : ∀ {W : View}, repL W cs l
theorem repL.rf {W : View} : ∀ {cs : List Value} {l : List Rf}, repL W cs l → rfL cs l
  | _, [], h => ⟨h⟩
  | _, _ :: _, ⟨vs, us, e, h1, h2⟩ => ⟨⟨vs, us, e, h1, (repL.rf h2).rep⟩⟩
theorem refsN_ok {i : Int} {n : Nod} {s e : Sl} {V : View} (h : NodR V s e n) : CallV Tryd.prog 56 ⟨[.int .i64 i, nodV n s e]⟩ V fun r V' => ∃ x : Sl, r = .slice x.a x.n x.c ∧ SlR V' x (refsN i n) ∧ V.Le V' := by
  refine f56_x ?_
  unfold f56_n
  refine fun _ => joinP_cut (fun q V' => q.1 = (!decide (n.kind = 1 ∧ mayN n = true ∧ within i 11 = true)) ∧ V' = V) (br_intro (fun hb => ⟨?_, rfl⟩) (fun hb => (mayN_ok h).mono ?_)) ?_
  · have hb := of_decide_eq_false (not_t hb)
    rw [decide_eq_false (fun h => hb h.1)]; rfl
  · have hb := of_decide_eq_true (not_f hb)
    rintro r V1 ⟨rfl, rfl⟩
    refine ⟨_, rfl, br_intro (fun h1 => ⟨?_, rfl⟩) (fun h1 => within_ok.mono ?_)⟩
    · have h1 := not_t h1
      rw [decide_eq_false (fun h => by rw [h1] at h; exact absurd h.2.1 (by decide))]; rfl
    · have h1 := not_f h1
      rintro r V2 ⟨rfl, rfl⟩
      refine ⟨_, rfl, ?_, rfl⟩
      cases h2 : within i 11
      · rw [decide_eq_false (fun h => absurd h.2.2 (by decide))]
      · rw [decide_eq_true ⟨hb, h1, rfl⟩]
  · rintro ⟨q, ⟨⟩⟩ V1 ⟨h1, hV⟩
    simp only at h1 hV
    subst h1 hV
    dsimp only [unc]
    refine br_intro (fun hb => ⟨⟨none, 0, 0⟩, rfl, ?_, View.Le.refl _⟩) (fun hb => ?_)
    · have hb := of_decide_eq_false (not_t hb)
      unfold refsN; rw [if_neg hb]; exact SlR.nil _ _ _
    · have hb := of_decide_eq_true (not_f hb)
      have hw : 0 ≤ i ∧ i ≤ 11 := by
        have := hb.2.2
        unfold within at this; simpa using this
      have h5 := mayN_seqs hb.2.1
      have hR : refsN i n = refsK i n n.seqs.length := by unfold refsN; rw [if_pos hb]
      rw [hR]
      have hsn := h.seqs.n
      refine loop2 (k := .sl) (l := .int .i64) (fun (x : Sl) (j : Int) V' => ∃ (k : Nat) (cs : List Value), j = k ∧ k ≤ n.seqs.length ∧ Buf V' x 101 2 cs ∧ repL V1 cs (refsK i n k) ∧ V1.Le (V'.minus x)) (fun _ (j : Int) _ => n.seqs.length - j.toNat) ⟨0, [], rfl, by omega, Buf.nil _ _ _, rfl, View.Le.refl _⟩ ?_
      rintro (x : Sl) (j : Int) V2 ⟨k, cs, rfl, hk, hbuf, hrep, hV2⟩
      have q2 : V1.Le V2 := hV2.trans (View.minus_le _ _)
      refine br_intro (fun hlt => ?_) (fun hge => ?_)
      · have hlt : k < n.seqs.length := by have := of_decide_eq_true hlt; omega
        obtain ⟨ad, ha, hc, hin⟩ := (h.seqs.mono q2).intN hlt
        have hin' := inI64_iff.1 hin
        refine ⟨by omega, by omega, ad, ha, _, hc, ?_⟩
        refine joinP_cut (fun q V' => ∃ cs, Buf V' q.1 101 2 cs ∧ repL V1 cs (refsK i n (k + 1)) ∧ V1.Le (V'.minus q.1)) (br_intro (fun h0 => ?_) (fun h0 => ?_)) ?_
        · have h0 : ¬ n.seqs.getD k 0 = 0 := of_decide_eq_false (not_t h0)
          refine ⟨inI64 (by omega) (by omega), inI64 (by omega) (by omega), inI64 (by omega) (by omega), fun r hr => ?_⟩
          have hfr := View.see_none_of_ge hr
          have hxn := hbuf.n_eq (α := Rf) hrep
          have hrl := refsK_len i n k
          refine apV_buf rfl (hbuf.put hfr) (src := [.int .i64 (1 + i * 5 + k), .int .i64 (n.seqs.getD k 0)]) (m := 1) ⟨rfl, rowAt_new (View.see_put_same _ _ _) rfl⟩ rfl rfl (by show (x.n + 1) * 16 ≤ _; omega) (by show x.n + 1 ≤ _; omega) fun s V' hb' _ hle' => ?_
          refine ⟨_, hb', ?_, hV2.trans ((put_minus_le hfr).trans hle')⟩
          rw [refsK_succ, if_neg h0]
          exact hrep.snoc ⟨rfl, inI64 (by simp only; omega) (by simp only; omega), hin⟩
        · have h0 : n.seqs.getD k 0 = 0 := of_decide_eq_true (not_f h0)
          refine ⟨cs, hbuf, ?_, hV2⟩
          rw [refsK_succ, if_pos h0, List.append_nil]; exact hrep
        · rintro ⟨q, ⟨⟩⟩ V3 ⟨cs3, hb3, hr3, hV3⟩
          exact ⟨inI64 (by omega) (by omega), ⟨k + 1, cs3, by omega, by omega, hb3, hr3, hV3⟩, by omega⟩
      · have hge : k = n.seqs.length := by have := of_decide_eq_false hge; omega
        subst hge
        exact ⟨x, rfl, hbuf.slR hrep q2, q2⟩
theorem refsT_ok {s : Sl} {t : Tre} {V : View} (h : SlR V s t) : CallV Tryd.prog 29 ⟨[treV s]⟩ V fun r V' => ∃ x : Sl, r = .slice x.a x.n x.c ∧ SlR V' x (refsT t) ∧ V.Le V' := by
  refine f29_x ?_
  unfold f29_n
  refine fun _ => (mayT_ok h).mono ?_
  rintro r V1 ⟨rfl, hV1⟩
  refine ⟨_, rfl, br_intro (fun hb => ⟨⟨none, 0, 0⟩, rfl, ?_, hV1⟩) (fun hb => ?_)⟩
  · unfold refsT; rw [not_t hb]; exact SlR.nil _ _ _
  have hM := not_f hb
  have h12 : t.length = 12 := by
    unfold mayT at hM
    simp only [Bool.and_eq_true, decide_eq_true_eq] at hM
    exact hM.1.1.1.1
  unfold refsT
  rw [if_pos hM]
  have hn := h.n
  refine loop2 (k := .sl) (l := .int .i64) (fun (x : Sl) (j : Int) V' => ∃ (k : Nat) (cs : List Value), j = k ∧ k ≤ t.length ∧ Buf V' x 101 2 cs ∧ repL V1 cs (refsU t k) ∧ V1.Le (V'.minus x)) (fun _ (j : Int) _ => t.length - j.toNat) ⟨0, [], rfl, by omega, Buf.nil _ _ _, rfl, View.Le.refl _⟩ ?_
  rintro (x : Sl) (j : Int) V2 ⟨k, cs, rfl, hk, hbuf, hrep, hV2⟩
  have q2 : V1.Le V2 := hV2.trans (View.minus_le _ _)
  refine br_intro (fun hlt => ?_) (fun hge => ?_)
  · have hlt : k < t.length := by have := of_decide_eq_true hlt; omega
    obtain ⟨ad, sq, en, ha, hc, hN⟩ := (h.mono (hV1.trans q2)).nodN hlt
    refine ⟨by omega, by omega, ad, ha, _, _, _, sq, en, hc, fun _ => (refsN_ok (i := (k : Int)) hN).mono ?_⟩
    rintro r V3 ⟨y, rfl, hy, hV3⟩
    obtain ⟨cy, hrow, hcy⟩ := hy.row
    have hxn := hbuf.n_eq (α := Rf) hrep
    have hrl := refsU_len t k
    have hyn := hy.n
    have hyl := refsN_len (k : Int) (t.getD k default)
    refine ⟨y, rfl, ?_⟩
    refine apV_buf rfl (hbuf.mono hV3) (src := cy) (m := y.n) ⟨rfl, hrow⟩ (by rw [hcy.len, hyn]; rfl) hcy.one (by show (x.n + y.n) * 16 ≤ _; omega) (by show x.n + y.n ≤ _; omega) fun s V' hb' _ hle' => ?_
    refine ⟨inI64 (by omega) (by omega), ⟨k + 1, _, by omega, by omega, hb', ?_, hV2.trans ((minus_mono hV3 x).trans hle')⟩, by omega⟩
    rw [refsU_succ]
    exact hrep.append hcy.rf.rep
  · have hge : k = t.length := by have := of_decide_eq_false hge; omega
    subst hge
    exact ⟨x, rfl, hbuf.slR hrep q2, hV1.trans q2⟩
end Go.Proofs.YtpalkdmngckcoaaDoor

/- Contracts: the first tree; the law that every program must know. -/
namespace Go.Proofs.YtpalkdmngckcoaaDoor
open Go
def dirN : Nod := ⟨2, 1, 0, [], []⟩
def firstT : Tre := dirN :: List.replicate 11 Nod.zero
def firstB : List UInt8 := [2, 0, 0, 0, 0, 0, 0, 0, 0, 0, 0, 0, 0]
theorem hang_first : ∀ i, i < 12 → ∀ met : Bool, (i = 0 → met = true) → hangB (firstT.getD i default) (i : Nat) ((cnt 12 (allE firstT)).getD i 0) met = true := by decide
theorem mayT_first : mayT firstT = true := by
  unfold mayT
  have h1 : (decide (firstT.length = 12) && firstT.all mayN && decide ((firstT.getD 0 default).kind = 2)) = true := by decide
  have h2 : apartL (allS firstT) = true := by decide
  rw [h1, h2, Bool.true_and, Bool.and_true, List.all_eq_true]
  intro i hi
  exact hang_first i (List.mem_range.1 hi) _ fun h => by subst h; exact metB_iff.2 .refl
theorem encT_first : encT firstT = firstB := by decide
theorem rd_first : rdTre 12 (some firstB) = (firstT, some []) := by decide
theorem parseT_first : parseT firstB = some firstT := by
  unfold parseT; rw [rd_first, if_pos ⟨rfl, mayT_first⟩]
theorem refsT_first : refsT firstT = [] := by
  unfold refsT; rw [if_pos mayT_first]; decide
theorem empty2_ok {V : View} : CallV Tryd.prog 59 ⟨[.int .i64 2]⟩ V fun r V' => r = nodV dirN ⟨none, 0, 0⟩ ⟨none, 0, 0⟩ ∧ V' = V := by
  refine f59_x ?_
  unfold f59_n
  exact fun _ => br_intro (fun h => absurd h (by decide)) (fun _ => br_intro (fun _ => ⟨rfl, rfl⟩) (fun h => absurd h (by decide)))
def nodCs (n : Nod) : List Value := [.int .i64 n.kind, .int .i64 n.links, .int .i64 n.size, .slice none 0 0, .slice none 0 0]
theorem rep_bare {W : View} {n : Nod} (h1 : inI .i64 n.kind) (h2 : inI .i64 n.links) (h3 : inI .i64 n.size) (h4 : n.seqs = []) (h5 : n.ents = []) : Rep.rep W (nodCs n) n :=
  ⟨⟨none, 0, 0⟩, ⟨none, 0, 0⟩, rfl, h1, h2, h3, by rw [h4]; exact SlR.nil _ _ _, by rw [h5]; exact SlR.nil _ _ _⟩
theorem rep_zeros {W : View} : ∀ k, repL W (List.replicate k (nodCs Nod.zero)).flatten (List.replicate k Nod.zero)
  | 0 => rfl
  | k + 1 => ⟨nodCs Nod.zero, (List.replicate k (nodCs Nod.zero)).flatten, by rw [List.replicate_succ, List.flatten_cons], rep_bare zero64 zero64 zero64 rfl rfl, rep_zeros k⟩
theorem first_ok {V : View} : CallV Tryd.prog 33 ⟨[]⟩ V fun r V' => ∃ x : Sl, r = treV x ∧ SlR V' x firstT ∧ V.Le V' := by
  refine f33_x (_u := ()) ?_
  unfold f33_n
  refine fun _ => ⟨by decide, by decide, by decide, by decide, fun r hr => ?_⟩
  have hfr := View.see_none_of_ge hr
  have hp := View.put_le (o := .cells ⟨(List.replicate 12 (nodCs Nod.zero)).flatten⟩ 31 (0, 0)) hfr
  refine fun _ => ⟨trivial, V, hp, empty2_ok.mono ?_⟩
  rintro r1 V1 ⟨rfl, rfl⟩
  refine ⟨_, _, _, ⟨none, 0, 0⟩, ⟨none, 0, 0⟩, rfl, hp, by decide, by decide, _, rfl, ?_, ⟨some ⟨r, 0, none⟩, 12, 12⟩, rfl, ?_, ?_⟩
  · exact canSet_of (View.see_put_same _ _ _) (by decide)
  · have e : (⟨r, 0, none⟩ : Addr).add 0 = ⟨r, 0, none⟩ := rfl
    rw [e, sets_see (View.see_put_same _ _ _)]
    have := slR_block (α := Nod) (l := firstT) (W := (V.put r (.cells ⟨(List.replicate 12 (nodCs Nod.zero)).flatten⟩ 31 (0, 0))).put r (.cells ⟨nodCs dirN ++ (List.replicate 11 (nodCs Nod.zero)).flatten⟩ 31 (0, 0))) (View.see_put_same _ _ _) ⟨nodCs dirN, _, rfl, rep_bare two64 one64 zero64 rfl rfl, rep_zeros 11⟩ (View.Le.refl _) (by decide)
    exact this
  · have e : (⟨r, 0, none⟩ : Addr).add 0 = ⟨r, 0, none⟩ := rfl
    rw [e, sets_see (View.see_put_same _ _ _)]
    exact (put_le_hide hfr (View.Le.refl _)).trans (hide_le_put r _)
theorem u8_row {V : View} {x : Sl} {l : List UInt8} (h : SlR V x l) : rowAt V x.a x.n (bytesV (ba l)) := by
  have := h.row8
  rw [Nat.mul_one] at this
  exact this
theorem awake_ok {V : View} : CallV Tryd.prog 26 ⟨[]⟩ V fun r V' => r = .bool true ∧ V.Le V' := by
  refine f26_x (_u := ()) ?_
  unfold f26_n
  refine first_ok.mono ?_
  rintro r V1 ⟨x, rfl, hx, hV1⟩
  refine ⟨x, rfl, (bytes_ok hx).mono ?_⟩
  rintro r V2 ⟨y, e, rfl, hy, hV2⟩
  rw [mayT_first] at hy
  obtain ⟨hy, rfl⟩ := hy
  rw [encT_first] at hy
  refine ⟨y, _, rfl, (parse_ok hy (by decide)).mono ?_⟩
  rintro r V3 ⟨z, e, rfl, hz, hV3⟩
  rw [parseT_first] at hz
  obtain ⟨hz, rfl⟩ := hz
  have hV13 := (hV1.trans hV2).trans hV3
  refine ⟨z, _, rfl, fun _ => joinP_cut (fun q V' => q.1 = true ∧ V.Le V') ⟨trivial, V3, View.Le.refl _, br_intro (fun _ => ⟨ba firstB, u8_row (hy.mono hV3), br_intro (fun _ => first_ok.mono ?_) (fun h => absurd h (by decide))⟩) (fun h => absurd h (by decide))⟩ ?_⟩
  · rintro r V4 ⟨w, rfl, hw, hV4⟩
    refine ⟨w, rfl, hV4, V3, View.Le.refl _, hV4, (sameT_ok (hz.mono hV4) hw).mono ?_⟩
    rintro r V5 ⟨rfl, rfl⟩
    refine ⟨_, rfl, hV4, V3, View.Le.refl _, hV4, br_intro (fun _ => (refsT_ok (hz.mono hV4)).mono ?_) (fun h => absurd h (by simp))⟩
    rintro r V6 ⟨u, rfl, hu, hV6⟩
    rw [refsT_first] at hu
    refine ⟨u, rfl, ?_, (hV13.trans hV4).trans hV6⟩
    rw [hu.n]; rfl
  · rintro ⟨q, ⟨⟩⟩ V4 ⟨h1, hV⟩
    simp only at h1 hV
    subst h1
    exact ⟨rfl, hV⟩
theorem awakeJ {V V0 : View} (hle : V0.Le V) {Q : Bool → View → Prop} (hQ : ∀ V', V0.Le V' → Q true V') : CallV Tryd.prog 26 ⟨[]⟩ V fun r V' => ∃ x : Bool, r = .bool x ∧ Q x V' :=
  awake_ok.mono fun _ V' h => ⟨true, h.1, hQ V' (hle.trans h.2)⟩
end Go.Proofs.YtpalkdmngckcoaaDoor

/- Which directories one comes to: marks, round by round. No program in this text. -/
namespace Go.Proofs.YtpalkdmngckcoaaDoor
open Go
abbrev kindT (t : Tre) (j : Nat) : Int := (t.getD j default).kind
abbrev entsT (t : Tre) (j : Nat) : List Ent := (t.getD j default).ents
/-- Marks on directories that one comes to. -/
structure RI (t : Tre) (on : List Bool) : Prop where
  len : on.length = 12
  start : on.getD 0 false = true
  sound : ∀ j, on.getD j false = true → Reach t 0 j ∧ kindT t j = 2
/-- What the marked ones of the first i name is marked, if it is a directory. -/
def Clo (t : Tre) (on0 on : List Bool) (i : Nat) : Prop := ∀ j, j < i → on0.getD j false = true → ∀ e ∈ entsT t j, kindT t e.node.toNat = 2 → on.getD e.node.toNat false = true
def SubB (a b : List Bool) : Prop := ∀ j, a.getD j false = true → b.getD j false = true
/-- Within a round. -/
structure PI (t : Tre) (on0 on : List Bool) (i : Nat) : Prop where
  ri : RI t on
  sub : SubB on0 on
  clo : Clo t on0 on i
  stay : Clo t on0 on0 12 → on = on0
def trues (on : List Bool) : Nat := on.countP fun b => b
theorem count_sub : ∀ (a b : List Bool), a.length = b.length → SubB a b → trues a ≤ trues b ∧ (trues a = trues b → a = b)
  | [], [], _, _ => ⟨Nat.le_refl _, fun _ => rfl⟩
  | x :: a, y :: b, hl, hs => by
    obtain ⟨h1, h2⟩ := count_sub a b (by simpa using hl) fun j hj => by have := hs (j + 1) (by simpa using hj); simpa using this
    have h0 : x = true → y = true := fun h => by have := hs 0 (by simpa using h); simpa using this
    unfold trues at *
    simp only [List.countP_cons]
    cases x <;> cases y <;> simp at h0 ⊢
    · exact ⟨h1, h2⟩
    · exact ⟨by omega, fun h => by omega⟩
    · exact ⟨h1, h2⟩
theorem trues_le (on : List Bool) : trues on ≤ on.length := List.countP_le_length
theorem PI.start {t : Tre} {on : List Bool} (h : RI t on) : PI t on on 0 := ⟨h, fun _ h => h, fun _ hj => absurd hj (Nat.not_lt_zero _), fun _ => rfl⟩
theorem PI.skip {t : Tre} {on0 on : List Bool} {i : Nat} (h : PI t on0 on i) (hi : on.getD i false = false) : PI t on0 on (i + 1) :=
  ⟨h.ri, h.sub, fun j hj h0 e he hk => by
    by_cases hji : j = i
    · subst hji; have := h.sub _ h0; rw [hi] at this; cases this
    · exact h.clo j (by omega) h0 e he hk, h.stay⟩
theorem PI.next {t : Tre} {on0 on : List Bool} {i : Nat} (h : PI t on0 on i) (hi : ∀ e ∈ entsT t i, kindT t e.node.toNat = 2 → on.getD e.node.toNat false = true) : PI t on0 on (i + 1) :=
  ⟨h.ri, h.sub, fun j hj h0 e he hk => by
    by_cases hji : j = i
    · subst hji; exact hi e he hk
    · exact h.clo j (by omega) h0 e he hk, h.stay⟩
theorem set_same {on : List Bool} {q : Nat} (h : on.getD q false = true) : on.set q true = on := by
  apply List.ext_getElem? 
  intro j
  rw [List.getElem?_set]
  by_cases e : q = j
  · subst e
    rw [List.getD_eq_getElem?_getD] at h
    cases ho : on[q]? with
    | none => rw [ho] at h; cases h
    | some b =>
      rw [ho] at h
      have hb : b = true := h
      rw [if_pos rfl, if_pos (List.getElem?_eq_some_iff.1 ho).1, hb]
  · rw [if_neg e]
theorem PI.mark {t : Tre} {on0 on : List Bool} {i q : Nat} {e : Ent} (h : PI t on0 on i) (hi12 : i < 12) (hi : on.getD i false = true) (he : e ∈ entsT t i) (hq : e.node = q) (hq12 : q < 12) (hk : kindT t q = 2) : PI t on0 (on.set q true) i := by
  have hl : q < on.length := by rw [h.ri.len]; exact hq12
  have hg := fun j => getD_set_bool on q j hl
  have up : ∀ j, on.getD j false = true → (on.set q true).getD j false = true := fun j hj => by rw [hg, hj]; simp
  refine ⟨⟨by simp [h.ri.len], up _ h.ri.start, fun j hj => ?_⟩, fun j hj => up _ (h.sub j hj), fun j hj h0 e he hk => up _ (h.clo j hj h0 e he hk), fun hc => ?_⟩
  · rw [hg] at hj
    split at hj
    · rename_i e1
      subst e1
      have := Reach.step (h.ri.sound i hi).1 he
      rw [hq, Int.toNat_natCast] at this
      exact ⟨this, hk⟩
    · exact h.ri.sound j hj
  · have hs := h.stay hc
    have h0 : on0.getD i false = true := by rw [← hs]; exact hi
    have := hc i hi12 h0 e he (by rw [hq, Int.toNat_natCast]; exact hk)
    rw [hq, Int.toNat_natCast, ← hs] at this
    rw [set_same this]; exact hs
/-- One round more. -/
theorem PI.round {t : Tre} {on0 on : List Bool} {k : Nat} (h0 : RI t on0) (h : PI t on0 on 12) (hk : Clo t on0 on0 12 ∨ k + 1 ≤ trues on0) : Clo t on on 12 ∨ k + 2 ≤ trues on := by
  obtain ⟨c1, c2⟩ := count_sub on0 on (by rw [h0.len, h.ri.len]) h.sub
  rcases hk with hk | hk
  · left
    have := h.stay hk
    rw [this]; exact hk
  · by_cases e : trues on0 = trues on
    · left
      have := c2 e
      subst this
      exact h.clo
    · right; omega
theorem RI.end {t : Tre} {on : List Bool} (h : RI t on) (hk : Clo t on on 12 ∨ 13 ≤ trues on) (h12 : t.length = 12) (hall : ∀ n ∈ t, mayN n = true) : on = (List.range 12).map fun j => metB t 0 j && decide (kindT t j = 2) := by
  have hc : Clo t on on 12 := by
    rcases hk with hk | hk
    · exact hk
    · have := trues_le on; rw [h.len] at this; omega
  have hdir : ∀ i, i < 12 → entsT t i ≠ [] → kindT t i = 2 := fun i hi hne => by
    have hm : mayN (t.getD i default) = true := hall _ (by rw [getD_at (by omega)]; exact List.getElem_mem _)
    unfold mayN at hm
    split at hm
    · simp at hm; exact absurd hm.2 hne
    · split at hm
      · unfold fileB at hm; simp at hm; exact absurd hm.1.2 hne
      · split at hm
        · rename_i hk; exact hk
        · cases hm
  have hlt : ∀ i, entsT t i ≠ [] → i < 12 := fun i hne => by
    apply Classical.byContradiction
    intro hi
    apply hne
    show (t.getD i default).ents = []
    rw [List.getD_eq_getElem?_getD, List.getElem?_eq_none (by omega)]; rfl
  have hcomp : ∀ j, Reach t 0 j → kindT t j = 2 → on.getD j false = true := by
    intro j hj
    induction hj with
    | refl => exact fun _ => h.start
    | @step i x hi hx ih =>
      intro hk
      have hne : entsT t i ≠ [] := fun e => by
        have : x ∈ entsT t i := hx
        rw [e] at this; cases this
      have hi12 := hlt i hne
      exact hc i hi12 (ih (hdir i hi12 hne)) x hx hk
  apply List.ext_getElem (by simp [h.len])
  intro j h1 h2
  have e : on.getD j false = on[j] := by rw [List.getD_eq_getElem?_getD, List.getElem?_eq_getElem h1]; rfl
  rw [List.getElem_map, List.getElem_range, Bool.eq_iff_iff, Bool.and_eq_true, metB_iff, decide_eq_true_eq, ← e]
  exact ⟨h.sound j, fun ⟨a, b⟩ => hcomp j a b⟩
end Go.Proofs.YtpalkdmngckcoaaDoor

/- Contracts of the reference: which directories one comes to, names of a node. -/
namespace Go.Proofs.YtpalkdmngckcoaaDoor
open Go
/-- Marks in a block, beside what was there. -/
structure MI (V V' : View) (r : Nat) (on : List Bool) : Prop where
  marks : V'.see r = some (.cells ⟨boolsV on⟩ 4 (0, 0))
  le : V.Le (V'.hide r)
theorem MI.vle {V V' : View} {r : Nat} {on : List Bool} (h : MI V V' r on) : V.Le V' := h.le.trans (View.hide_le _ _)
theorem MI.get {V V' : View} {r : Nat} {on : List Bool} (h : MI V V' r on) {q : Nat} (hq : q < on.length) : V'.cell? ((⟨r, 0, none⟩ : Addr).add (q * 1)) = some (.bool (on.getD q false)) := by
  rw [addr0_add]
  refine cell_of_see h.marks ?_
  rw [List.getD_eq_getElem?_getD, List.getElem?_eq_getElem hq]
  show (boolsV on)[0 + q * 1]? = _
  unfold boolsV
  rw [Nat.zero_add, Nat.mul_one, List.getElem?_map, List.getElem?_eq_getElem hq]
  rfl
theorem MI.set {V V' : View} {r : Nat} {on : List Bool} (h : MI V V' r on) {q : Nat} (hq : q < on.length) : canSet V' ((⟨r, 0, none⟩ : Addr).add (q * 1)) 1 ∧ MI V (V'.sets ((⟨r, 0, none⟩ : Addr).add (q * 1)) [.bool true]) r (on.set q true) := by
  rw [addr0_add]
  refine ⟨canSet_of h.marks (show 0 + q * 1 + 1 ≤ _ by rw [boolsV_len]; omega), ?_, ?_⟩
  · rw [sets_see h.marks, View.see_put_same, putL_one, Nat.zero_add, Nat.mul_one, boolsV_set]
  · rw [sets_see h.marks]
    exact h.le.trans (hide_le_put_hide r _)
theorem reached_ok {s : Sl} {t : Tre} {V : View} (h : SlR V s t) (h12 : t.length = 12) (hall : ∀ n ∈ t, mayN n = true) (h2 : kindT t 0 = 2) :
    CallV Tryd.prog 32 ⟨[treV s, .int .i64 0]⟩ V fun r V' => ∃ x : Sl, r = .slice x.a x.n x.c ∧ SlR V' x ((List.range 12).map fun j => metB t 0 j && decide (kindT t j = 2)) ∧ V.Le V' := by
  refine f32_x ?_
  unfold f32_n
  have hn : s.n = 12 := by rw [h.n, h12]
  rw [hn]
  refine fun _ => ⟨by decide, by decide, by decide, by decide, fun r hr => ?_⟩
  have hfr : V.see r = none := View.see_none_of_ge hr
  have hM0 : MI V (V.put r (.cells ⟨(List.replicate (((12 : Nat) : Int).toNat) [Value.bool false]).flatten⟩ 4 (0, 0))) r (List.replicate 12 false) := ⟨View.see_put_same _ _ _, put_le_hide hfr (View.Le.refl _)⟩
  generalize (V.put r (.cells ⟨(List.replicate (((12 : Nat) : Int).toNat) [Value.bool false]).flatten⟩ 4 (0, 0))) = V1 at *
  refine joinP_cut (fun q V' => q.1 = false ∧ V' = V1) (br_intro (fun hb => absurd hb (by decide)) (fun _ => ?_)) ?_
  · obtain ⟨ad, sq, en, ha, hc, hN⟩ := (h.mono hM0.vle).nodN (i := 0) (by omega)
    refine ⟨by omega, by omega, ad, ha, _, cellsAt_nth hc 0 rfl, ?_, rfl⟩
    rw [decide_eq_true (show (t.getD 0 default).kind = 2 from h2)]; rfl
  rintro ⟨q, ⟨⟩⟩ V2 ⟨h1, hV⟩
  simp only at h1 hV
  subst h1 hV
  dsimp only [unc]
  refine br_intro (fun hb => absurd hb (by decide)) (fun _ => ?_)
  obtain ⟨hs1, hM1⟩ := hM0.set (q := 0) (by simp)
  refine ⟨by omega, by omega, _, rfl, hs1, ?_⟩
  have hR1 : RI t ((List.replicate 12 false).set 0 true) := by
    have hg := fun j => getD_set_bool (List.replicate 12 false) 0 j (by simp)
    refine ⟨by simp, by rw [hg, if_pos rfl], fun j hj => ?_⟩
    rw [hg] at hj
    split at hj
    · rename_i e; subst e; exact ⟨.refl, h2⟩
    · rw [List.getD_eq_getElem?_getD, List.getElem?_replicate] at hj
      split at hj <;> cases hj
  have hlim := h.lim
  refine loop1 (k := .int .i64) (fun (x : Int) V' => ∃ (k : Nat) (on : List Bool), x = k ∧ k ≤ 12 ∧ MI V V' r on ∧ RI t on ∧ (Clo t on on 12 ∨ k + 1 ≤ trues on)) (fun (x : Int) _ => 12 - x.toNat) ⟨0, _, rfl, by omega, hM1, hR1, .inr (by decide)⟩ ?_
  rintro (x : Int) V3 ⟨k, on0, rfl, hk, hM3, hR3, hC3⟩
  refine br_intro (fun hlt => ?_) (fun hge => ?_)
  · have hlt : k < 12 := by have := of_decide_eq_true hlt; omega
    refine loop1 (k := .int .i64) (fun (x : Int) V' => ∃ (i : Nat) (on : List Bool), x = i ∧ i ≤ 12 ∧ MI V V' r on ∧ PI t on0 on i) (fun (x : Int) _ => 12 - x.toNat) ⟨0, on0, rfl, by omega, hM3, .start hR3⟩ ?_
    rintro (x : Int) V4 ⟨i, on, rfl, hi, hM4, hP4⟩
    refine br_intro (fun hlt => ?_) (fun hge => ?_)
    · have hlt : i < 12 := by have := of_decide_eq_true hlt; omega
      have hlti := hlt
      obtain ⟨ad, sq, en, ha, hc, hN⟩ := h.nodN (i := i) (by omega)
      have hmem : t.getD i default ∈ t := by rw [getD_at (by omega)]; exact List.getElem_mem _
      have hnode := mayN_ents (hall _ hmem)
      have hil : i < on.length := by rw [hP4.ri.len]; exact hlt
      refine joinP_cut (fun _ V' => ∃ on, MI V V' r on ∧ PI t on0 on (i + 1)) ⟨by omega, by omega, ad, ha, _, _, _, sq, en, cellsAt_mono hM4.vle hc, fun _ => ⟨by omega, by omega, _, rfl, _, hM4.get hil, br_intro (fun hb => ?_) (fun hb => ?_)⟩⟩ ?_
      · exact ⟨on, hM4, hP4.skip (not_t hb)⟩
      · have hon := not_f hb
        have hen := hN.ents.n
        have helim := hN.ents.lim
        have hle0 : (entsT t i).length = (t.getD i default).ents.length := rfl
        refine loop1 (k := .int .i64) (fun (x : Int) V' => ∃ (m : Nat) (on : List Bool), x = m ∧ m ≤ (entsT t i).length ∧ MI V V' r on ∧ PI t on0 on i ∧ on.getD i false = true ∧ ∀ e ∈ (entsT t i).take m, kindT t e.node.toNat = 2 → on.getD e.node.toNat false = true) (fun (x : Int) _ => (entsT t i).length - x.toNat) ⟨0, on, rfl, by omega, hM4, hP4, hon, fun e he => by simp at he⟩ ?_
        rintro (x : Int) V5 ⟨m, on5, rfl, hm, hM5, hP5, hon5, hdone⟩
        refine br_intro (fun hlt => ?_) (fun hge => ?_)
        · have hltm : m < (entsT t i).length := by have := of_decide_eq_true hlt; omega
          obtain ⟨ad3, ha3, hc3, _, _⟩ := (hN.ents.mono hM5.vle).entN (i := m) hltm
          have hxm : (t.getD i default).ents.getD m default ∈ (t.getD i default).ents := by rw [getD_at hltm]; exact List.getElem_mem _
          have hq := mayL_node hnode hxm
          have etk : (entsT t i).take (m + 1) = (entsT t i).take m ++ [(t.getD i default).ents.getD m default] := by rw [List.take_add_one, List.getElem?_eq_getElem hltm, getD_at hltm]; rfl
          obtain ⟨q, hqe⟩ : ∃ q : Nat, ((t.getD i default).ents.getD m default).node = q := ⟨((t.getD i default).ents.getD m default).node.toNat, by omega⟩
          have hq12 : q < 12 := by omega
          refine ⟨by omega, by omega, ad3, ha3, _, _, hc3, fun _ => ?_⟩
          rw [hqe]
          generalize hxx : (t.getD i default).ents.getD m default = e at *
          refine joinP_cut (fun g V' => g.1 = decide (kindT t q = 2) ∧ V' = V5) (br_intro (fun _ => ?_) (fun hb => ?_)) ?_
          · obtain ⟨ad4, sq4, en4, ha4, hc4, _⟩ := h.nodN (i := q) (by omega)
            exact ⟨by omega, by omega, ad4, ha4, _, cellsAt_nth (cellsAt_mono hM5.vle hc4) 0 rfl, rfl, rfl⟩
          · exfalso
            rw [decide_eq_true (show (0 : Int) ≤ (q : Int) by omega)] at hb
            have := of_decide_eq_false hb
            omega
          · rintro ⟨g, ⟨⟩⟩ V6 ⟨h1, hV⟩
            simp only at h1 hV
            subst h1 hV
            dsimp only [unc]
            have hql : q < on5.length := by rw [hP5.ri.len]; exact hq12
            refine joinP_cut (fun _ V' => ∃ on, MI V V' r on ∧ PI t on0 on i ∧ on.getD i false = true ∧ ∀ e ∈ (entsT t i).take (m + 1), kindT t e.node.toNat = 2 → on.getD e.node.toNat false = true) (br_intro (fun hb => ?_) (fun hb => ?_)) ?_
            · have hkq := of_decide_eq_true hb
              obtain ⟨hs6, hM6⟩ := hM5.set hql
              have hg := fun j => getD_set_bool on5 q j hql
              refine ⟨by omega, by omega, _, rfl, hs6, _, hM6, hP5.mark hlti hon5 hxm hqe hq12 hkq, by rw [hg, hon5]; simp, fun e' he' hk' => ?_⟩
              rw [etk] at he'
              rw [hg]
              rcases List.mem_append.1 he' with h7 | h7
              · rw [hdone e' h7 hk']; simp
              · rw [List.mem_singleton.1 h7, hqe, Int.toNat_natCast, if_pos rfl]
            · have hkq := of_decide_eq_false hb
              refine ⟨on5, hM5, hP5, hon5, fun e' he' hk' => ?_⟩
              rw [etk] at he'
              rcases List.mem_append.1 he' with h7 | h7
              · exact hdone e' h7 hk'
              · rw [List.mem_singleton.1 h7, hqe, Int.toNat_natCast] at hk'
                exact absurd hk' hkq
            · rintro ⟨⟩ V7 ⟨on7, hM7, hP7, hon7, hd7⟩
              exact ⟨inI64 (by omega) (by omega), ⟨m + 1, on7, by omega, by omega, hM7, hP7, hon7, hd7⟩, by omega⟩
        · have hge : m = (entsT t i).length := by have := of_decide_eq_false hge; omega
          subst hge
          rw [List.take_length] at hdone
          exact ⟨on5, hM5, hP5.next hdone⟩
      · rintro ⟨⟩ V5 ⟨on5, hM5, hP5⟩
        exact ⟨inI64 (by omega) (by omega), ⟨i + 1, on5, by omega, by omega, hM5, hP5⟩, by omega⟩
    · have hge : i = 12 := by have := of_decide_eq_false hge; omega
      subst hge
      exact ⟨inI64 (by omega) (by omega), ⟨k + 1, on, by omega, by omega, hM4, hP4.ri, hP4.round hR3 hC3⟩, by omega⟩
  · have hge : k = 12 := by have := of_decide_eq_false hge; omega
    subst hge
    refine ⟨⟨some ⟨r, 0, none⟩, 12, 12⟩, rfl, ?_, hM3.vle⟩
    have := slR_block (W := V3) hM3.marks rows_bool (View.Le.refl _) (by rw [hR3.len]; omega)
    rw [hR3.len, hR3.end hC3 h12 hall] at this
    exact this
theorem named_ok {s : Sl} {t : Tre} {a : Int} {V : View} (h : SlR V s t) (h12 : t.length = 12) (he : ∀ n ∈ t, n.ents.length ≤ 10) :
    CallV Tryd.prog 25 ⟨[treV s, .int .i64 a]⟩ V fun r V' => r = .int .i64 ((allE t).countP (fun (x : Ent) => decide (x.node = a)) : Nat) ∧ V' = V := by
  refine f25_x ?_
  unfold f25_n
  have hn := h.n
  refine fun _ => ?_
  refine loop2 (k := .int .i64) (l := .int .i64) (fun (x : Int) (j : Int) V' => V' = V ∧ ∃ i : Nat, j = i ∧ i ≤ 12 ∧ x = ((allE (t.take i)).countP (fun (x : Ent) => decide (x.node = a)) : Nat)) (fun _ (j : Int) _ => 12 - j.toNat) ⟨rfl, 0, rfl, by omega, rfl⟩ ?_
  rintro (x : Int) (j : Int) V1 ⟨rfl, i, rfl, hi, rfl⟩
  refine br_intro (fun hlt => ?_) (fun hge => ?_)
  · have hlt : i < 12 := by have := of_decide_eq_true hlt; omega
    obtain ⟨ad, sq, en, ha, hc, hN⟩ := h.nodN (i := i) (by omega)
    have hmem : t.getD i default ∈ t := by rw [getD_at (by omega)]; exact List.getElem_mem _
    have hle := he _ hmem
    have hti := allE_take (t := t) (i := i) (by omega)
    have htk : (allE (t.take i)).length ≤ 10 * 12 := Nat.le_trans (allE_len fun n hn => he n (List.mem_of_mem_take hn)) (Nat.mul_le_mul_left _ (by simp; omega))
    have hen := hN.ents.n
    refine ⟨by omega, by omega, ad, ha, _, _, _, sq, en, hc, fun _ => ?_⟩
    generalize t.getD i default = nd at *
    refine loop2 (k := .int .i64) (l := .int .i64) (fun (x : Int) (j : Int) V' => V' = V1 ∧ ∃ k : Nat, j = k ∧ k ≤ nd.ents.length ∧ x = ((allE (t.take i) ++ nd.ents.take k).countP (fun (x : Ent) => decide (x.node = a)) : Nat)) (fun _ (j : Int) _ => nd.ents.length - j.toNat) ⟨rfl, 0, rfl, by omega, by simp⟩ ?_
    rintro (x : Int) (j : Int) V2 ⟨rfl, k, rfl, hk, rfl⟩
    have hcl := List.countP_le_length (p := fun (x : Ent) => decide (x.node = a)) (l := allE (t.take i) ++ nd.ents.take k)
    simp only [List.length_append, List.length_take] at hcl
    refine br_intro (fun hlt => ?_) (fun hge => ?_)
    · have hlt : k < nd.ents.length := by have := of_decide_eq_true hlt; omega
      obtain ⟨ad, ha, hc, _, _⟩ := hN.ents.entN hlt
      have etk : nd.ents.take (k + 1) = nd.ents.take k ++ [nd.ents.getD k default] := by rw [List.take_add_one, List.getElem?_eq_getElem hlt, getD_at hlt]; rfl
      refine ⟨by omega, by omega, ad, ha, _, _, hc, fun _ => ?_⟩
      generalize nd.ents.getD k default = e at *
      have hst : (allE (t.take i) ++ nd.ents.take (k + 1)).countP (fun (x : Ent) => decide (x.node = a)) = (allE (t.take i) ++ nd.ents.take k).countP (fun (x : Ent) => decide (x.node = a)) + if e.node = a then 1 else 0 := by
        rw [etk, ← List.append_assoc, List.countP_append]
        congr 1
        by_cases h1 : e.node = a <;> simp [h1]
      refine joinP_cut (fun g V' => g.1 = ((allE (t.take i) ++ nd.ents.take (k + 1)).countP (fun (x : Ent) => decide (x.node = a)) : Nat) ∧ V' = V2) (br_intro (fun h1 => ⟨inI64 (by omega) (by omega), ?_, rfl⟩) (fun h1 => ⟨?_, rfl⟩)) ?_
      · rw [hst, if_pos (of_decide_eq_true h1)]; rfl
      · rw [hst, if_neg (of_decide_eq_false h1)]; rfl
      · rintro ⟨g, ⟨⟩⟩ V3 ⟨h1, hV⟩
        simp only at h1 hV
        subst h1 hV
        exact ⟨inI64 (by omega) (by omega), ⟨rfl, k + 1, by omega, by omega, rfl⟩, by omega⟩
    · have hge : k = nd.ents.length := by have := of_decide_eq_false hge; omega
      subst hge
      rw [List.take_length] at *
      exact ⟨inI64 (by omega) (by omega), ⟨rfl, i + 1, by omega, by omega, by rw [hti]⟩, by omega⟩
  · have hge : i = 12 := by have := of_decide_eq_false hge; omega
    subst hge
    rw [List.take_of_length_le (by omega)]
    exact ⟨rfl, rfl⟩
end Go.Proofs.YtpalkdmngckcoaaDoor

/- Contracts of what finds nodes by paths. -/
namespace Go.Proofs.YtpalkdmngckcoaaDoor
open Go
/-! ### plain -/
/-- The node of a name; -1: there is none. -/
def atI (l : List Ent) (s : ByteArray) : Int := match l.find? fun x => decide (x.name = s) with
  | some x => x.node
  | none => -1
theorem idxI_find {α : Type} (p : α → Bool) : ∀ l : List α, (idxI p l = -1 ∧ l.find? p = none) ∨ ∃ i, ∃ h : i < l.length, idxI p l = (i : Int) ∧ l.find? p = some l[i]
  | [] => .inl ⟨rfl, rfl⟩
  | x :: l => by
    unfold idxI
    by_cases hx : p x = true
    · right; exact ⟨0, by simp, by rw [if_pos hx]; rfl, by simp [List.find?_cons, hx]⟩
    · rw [if_neg hx]
      rcases idxI_find p l with ⟨h1, h2⟩ | ⟨i, h, h1, h2⟩
      · left; rw [h1]; exact ⟨rfl, by simp [List.find?_cons, hx, h2]⟩
      · right
        refine ⟨i + 1, by simpa using h, ?_, by simp [List.find?_cons, hx, h2]⟩
        rw [h1]; simp
/-- Name by name from a node on. -/
def goF (t : Tre) : Nat → List ByteArray → Except Int Nat
  | i, [] => .ok i
  | i, s :: l => if kindT t i = 2 then (if atI (entsT t i) s < 0 then .error 8 else goF t (atI (entsT t i) s).toNat l) else .error 11
theorem goF_cons (t : Tre) (i : Nat) (s : ByteArray) (l : List ByteArray) : goF t i (s :: l) = if kindT t i = 2 then (if atI (entsT t i) s < 0 then .error 8 else goF t (atI (entsT t i) s).toNat l) else .error 11 := rfl
noncomputable def findT (t : Tre) (s : ByteArray) : Except Int Nat := if mayT t then match splitP s with
  | none => .error 7
  | some l => goF t 0 l
  else .error 1
noncomputable def parentT (t : Tre) (s : ByteArray) : Except Int (Nat × ByteArray) := if mayT t then
    (if (lastP s).2.2 = 0 then match findT t (lastP s).1 with
      | .error e => .error e
      | .ok i => if kindT t i = 2 then .ok (i, (lastP s).2.1) else .error 11
    else .error (lastP s).2.2)
  else .error 1
noncomputable def insideT (t : Tre) (a b : Int) : Bool := mayT t && decide (0 ≤ a) && decide (a < 12) && decide (0 ≤ b) && decide (b < 12) && decide (kindT t a.toNat = 2) && metB t a.toNat b.toNat
noncomputable def freeT (t : Tre) : Int := if mayT t then idxI (fun n => decide (n.kind = 0)) t else -1
theorem mayT_all {t : Tre} (h : mayT t = true) : t.length = 12 ∧ (∀ n ∈ t, mayN n = true) ∧ kindT t 0 = 2 ∧ (∀ i, i < 12 → hangB (t.getD i default) i ((cnt 12 (allE t)).getD i 0) (metB t 0 i) = true) ∧ apartL (allS t) = true := by
  unfold mayT at h
  simp only [Bool.and_eq_true, decide_eq_true_eq, List.all_eq_true, List.mem_range] at h
  exact ⟨h.1.1.1.1, h.1.1.1.2, h.1.1.2, h.1.2, h.2⟩
theorem mayT_node {t : Tre} (h : mayT t = true) : ∀ n ∈ t, ∀ e ∈ n.ents, 1 ≤ e.node ∧ e.node < 12 := fun n hn e he => by
  have := mayL_node (mayN_ents ((mayT_all h).2.1 n hn)) he
  exact ⟨this.1, this.2.1⟩
theorem getD_mem {t : Tre} {i : Nat} (h : i < t.length) : t.getD i default ∈ t := by rw [getD_at h]; exact List.getElem_mem _
theorem atI_range {l : List Ent} {s : ByteArray} (h : ∀ e ∈ l, 1 ≤ e.node ∧ e.node < 12) : atI l s = -1 ∨ (1 ≤ atI l s ∧ atI l s < 12) := by
  unfold atI
  split
  · rename_i x hx; right; exact h x (List.mem_of_find?_eq_some hx)
  · left; rfl
theorem goF_range {t : Tre} (h12 : t.length = 12) (hn : ∀ n ∈ t, ∀ e ∈ n.ents, 1 ≤ e.node ∧ e.node < 12) : ∀ {l : List ByteArray} {i q : Nat}, i < 12 → goF t i l = .ok q → q < 12
  | [], i, q, hi, h => by cases h; exact hi
  | s :: l, i, q, hi, h => by
    unfold goF at h
    split at h
    · split at h
      · cases h
      · rename_i h0
        have := atI_range (s := s) (hn _ (getD_mem (t := t) (i := i) (by omega)))
        refine goF_range h12 hn ?_ h
        unfold entsT at h0 ⊢
        omega
    · cases h
theorem findT_range {t : Tre} {s : ByteArray} {q : Nat} (h : findT t s = .ok q) : q < 12 := by
  unfold findT at h
  split at h
  · rename_i hM
    split at h
    · cases h
    · exact goF_range (mayT_all hM).1 (mayT_node hM) (by omega) h
  · cases h
def outF : Except Int Nat → Value
  | .ok i => .tuple ⟨[.int .i64 (i : Int), .int .i64 0]⟩
  | .error e => .tuple ⟨[.int .i64 0, .int .i64 e]⟩
def outP : Except Int (Nat × ByteArray) → Value
  | .ok (i, s) => .tuple ⟨[.int .i64 (i : Int), .string s, .int .i64 0]⟩
  | .error e => .tuple ⟨[.int .i64 0, .string (ba []), .int .i64 e]⟩
theorem ends_only {t : Tre} {s : ByteArray} {e : Int} (h : findT t s = .error e) : e ≠ 0 := by
  have go : ∀ {l : List ByteArray} {i : Nat}, goF t i l = .error e → e ≠ 0 := by
    intro l
    induction l with
    | nil => intro i h; cases h
    | cons s l ih =>
      intro i h
      unfold goF at h
      split at h
      · split at h
        · cases h; decide
        · exact ih h
      · cases h; decide
  unfold findT at h
  split at h
  · split at h
    · cases h; decide
    · exact go h
  · cases h; decide
theorem lastP_size {s : ByteArray} (hs : s.size ≤ 9223372036854775807) : (lastP s).1.size ≤ 9223372036854775807 := by
  unfold lastP
  split
  · simp [ba_size]
  · rename_i l hl
    split
    · simp [ba_size]
    · unfold joinP1
      split
      · rename_i h2
        have := (splitP_some h2).1
        dsimp only
        omega
      · simp [ba_size]
/-! ### the program's -/
theorem placeC_ok {x : Ent} {s : ByteArray} {z : Addr} {V : View} (h : V.cell? z = some (.string s)) : CallV Tryd.prog 101 ⟨[entV x, .pointer (some z)]⟩ V fun r V' => r = .bool (decide (x.name = s)) ∧ V' = V := by
  refine f101_x ?_
  unfold f101_n
  exact fun _ => ⟨s, h, rfl, rfl⟩
theorem indexFuncE_ok {p : Ent → Bool} {s : Sl} {l : List Ent} {V : View} {g : FuncId} {xs ys : List Value} (h : SlR V s l)
    (hp : ∀ n ∈ l, CallV Tryd.prog g ⟨xs ++ [entV n] ++ ys⟩ V fun r V' => r = .bool (p n) ∧ V' = V) :
    CallV Tryd.prog 100 ⟨[.slice s.a s.n s.c, .func (.func g) ⟨xs⟩ ⟨ys⟩]⟩ V fun r V' => r = .int .i64 (idxI p l) ∧ V' = V := by
  refine f100_x ?_
  unfold f100_n
  have hn := h.n; have hlim := h.lim
  refine loop1 (k := .int .i64) (fun (x : Int) V' => V' = V ∧ 0 ≤ x ∧ x ≤ s.n ∧ ∀ j (hj : j < l.length), (j : Int) < x → p l[j] = false) (fun (x : Int) _ => s.n - x.toNat) ⟨rfl, by omega, by omega, fun j _ hj => by omega⟩ ?_
  rintro (x : Int) V' ⟨rfl, h0, h1, h2⟩
  refine br_intro (fun hlt => ?_) (fun hge => ?_)
  · have hlt : x < s.n := by simpa using hlt
    obtain ⟨ad, hx, ha, hc, _⟩ := h.ent h0 hlt
    refine ⟨h0, hlt, ad, ha, _, _, hc, (hp _ (List.getElem_mem hx)).mono ?_⟩
    rintro r V1 ⟨rfl, rfl⟩
    refine ⟨_, rfl, br_intro (fun hb => ⟨?_, rfl⟩) (fun hb => ⟨inI64 (by omega) (by omega), ⟨rfl, by omega, by omega, fun j hj hjx => ?_⟩, by omega⟩)⟩
    · rw [idxI_first p l x.toNat hx (fun j hj => h2 j (by omega) (by omega)) hb]
      congr 1; omega
    · by_cases e : (j : Int) < x
      · exact h2 j hj e
      · have : j = x.toNat := by omega
        subst this; exact hb
  · have hge : ¬ x < s.n := by simpa using hge
    refine ⟨?_, rfl⟩
    rw [idxI_none p l fun y hy => ?_]
    obtain ⟨j, hj, rfl⟩ := List.getElem_of_mem hy
    exact h2 j hj (by omega)
theorem place_ok {x : Sl} {l : List Ent} {s : ByteArray} {V : View} (h : SlR V x l) : CallV Tryd.prog 88 ⟨[.slice x.a x.n x.c, .string s]⟩ V fun r V' => r = .int .i64 (idxI (fun e : Ent => decide (e.name = s)) l) ∧ V.Le V' := by
  refine f88_x ?_
  unfold f88_n
  intro b hb
  have hle := View.put_le (o := .cells ⟨[.string s]⟩ 9 (0, 0)) hb
  refine (indexFuncE_ok (xs := []) (ys := [.pointer (some ⟨b, 0, none⟩)]) (p := fun e : Ent => decide (e.name = s)) (h.mono hle) (fun n _ => placeC_ok (x := n) (cell_of_see (View.see_put_same _ _ _) rfl))).mono ?_
  rintro r V1 ⟨rfl, rfl⟩
  exact ⟨_, rfl, rfl, hle⟩
theorem nameFind_ok {x : Sl} {l : List Ent} {s : ByteArray} {V : View} (h : SlR V x l) : CallV Tryd.prog 73 ⟨[.slice x.a x.n x.c, .string s]⟩ V fun r V' => r = .int .i64 (atI l s) ∧ V.Le V' := by
  refine f73_x ?_
  unfold f73_n
  refine (place_ok h).mono ?_
  rintro r V1 ⟨rfl, hV1⟩
  refine ⟨_, rfl, ?_⟩
  have hn := h.n
  unfold atI
  rcases idxI_find (fun e : Ent => decide (e.name = s)) l with ⟨h1, h2⟩ | ⟨i, hi, h1, h2⟩
  · rw [h1, h2]
    exact br_intro (fun _ => ⟨rfl, hV1⟩) (fun hc => absurd (of_decide_eq_false hc) (by omega))
  · rw [h1, h2]
    refine br_intro (fun hc => ?_) (fun _ => ?_)
    · have := of_decide_eq_true hc; omega
    · obtain ⟨ad, ha, hc, _⟩ := (h.mono hV1).entN hi
      rw [getD_at hi] at hc
      exact ⟨by omega, by omega, ad, ha, _, cellsAt_nth hc 1 rfl, rfl, hV1⟩
theorem refAt_ok {x : Sl} {l : List Ent} {s : ByteArray} {V : View} (h : SlR V x l) : CallV Tryd.prog 24 ⟨[.slice x.a x.n x.c, .string s]⟩ V fun r V' => r = .int .i64 (atI l s) ∧ V' = V := by
  refine f24_x ?_
  unfold f24_n
  have hn := h.n; have hlim := h.lim
  refine loop1 (k := .int .i64) (fun (x : Int) V' => V' = V ∧ ∃ i : Nat, x = i ∧ i ≤ l.length ∧ atI l s = atI (l.drop i) s) (fun (x : Int) _ => l.length - x.toNat) ⟨rfl, 0, rfl, by omega, rfl⟩ ?_
  rintro (y : Int) V' ⟨rfl, i, rfl, hi, h2⟩
  refine br_intro (fun hlt => ?_) (fun hge => ?_)
  · have hlt : i < l.length := by have := of_decide_eq_true hlt; omega
    obtain ⟨ad, ha, hc, _⟩ := h.entN hlt
    have hd : l.drop i = l.getD i default :: l.drop (i + 1) := by rw [getD_at hlt]; exact (List.getElem_cons_drop (h := hlt)).symm
    have h3 : atI l s = if (l.getD i default).name = s then (l.getD i default).node else atI (l.drop (i + 1)) s := by
      rw [h2, hd]
      unfold atI
      rw [List.find?_cons]
      by_cases e : (l.getD i default).name = s
      · rw [decide_eq_true e, if_pos e]
      · rw [decide_eq_false e, if_neg e]
    refine ⟨by omega, by omega, ad, ha, _, _, hc, fun _ => br_intro (fun hb => ?_) (fun hb => ?_)⟩
    · have hb := of_decide_eq_true hb
      rw [h3, if_pos hb]; exact ⟨rfl, rfl⟩
    · have hb := of_decide_eq_false hb
      rw [if_neg hb] at h3
      exact ⟨inI64 (by omega) (by omega), ⟨rfl, i + 1, by omega, by omega, h3⟩, by omega⟩
  · have hge : i = l.length := by have := of_decide_eq_false hge; omega
    subst hge
    rw [List.drop_length] at h2
    rw [h2]; exact ⟨rfl, rfl⟩
theorem SlR.strN {V : View} {s : Sl} {l : List ByteArray} (h : SlR V s l) {i : Nat} (hi : i < l.length) :
    ∃ ad, s.a = some ad ∧ V.cell? (ad.add (((i : Int)).toNat * 1)) = some (.string l[i]) ∧ l[i].size ≤ 9223372036854775807 := by
  have hn := h.n
  obtain ⟨ad, hx, ha, hc, hs⟩ := h.str (x := (i : Int)) (by omega) (by omega)
  exact ⟨ad, ha, hc, hs⟩
theorem dirGo_ok {s x : Sl} {t : Tre} {l : List ByteArray} {V : View} (h : SlR V s t) (k : SlR V x l) (h12 : t.length = 12) (hnode : ∀ n ∈ t, ∀ e ∈ n.ents, 1 ≤ e.node ∧ e.node < 12) : CallV Tryd.prog 50 ⟨[treV s, .slice x.a x.n x.c]⟩ V fun r V' => r = outF (goF t 0 l) ∧ V.Le V' := by
  refine f50_x ?_
  unfold f50_n
  have hn := h.n; have kn := k.n; have klim := k.lim
  refine fun _ => loop2 (k := .int .i64) (l := .int .i64) (fun (y : Int) (j : Int) V' => ∃ q i : Nat, y = q ∧ j = i ∧ q < 12 ∧ i ≤ l.length ∧ goF t 0 l = goF t q (l.drop i) ∧ V.Le V') (fun _ (j : Int) _ => l.length - j.toNat) ⟨0, 0, rfl, rfl, by omega, by omega, rfl, View.Le.refl _⟩ ?_
  rintro (y : Int) (j : Int) V1 ⟨q, i, rfl, rfl, hq, hi, hG, hV1⟩
  refine br_intro (fun hlt => ?_) (fun hge => ?_)
  · have hlt : i < l.length := by have := of_decide_eq_true hlt; omega
    obtain ⟨ad, ha, hc, hsz⟩ := (k.mono hV1).strN hlt
    obtain ⟨ad2, sq, en, ha2, hc2, hN⟩ := (h.mono hV1).nodN (i := q) (by omega)
    have hd : l.drop i = l[i] :: l.drop (i + 1) := (List.getElem_cons_drop (h := hlt)).symm
    rw [hd, goF_cons] at hG
    refine ⟨by omega, by omega, ad, ha, _, hc, by omega, by omega, ad2, ha2, _, cellsAt_nth hc2 0 rfl, br_intro (fun hb => ?_) (fun hb => ⟨by omega, by omega, ad2, ha2, en, cellsAt_nth hc2 4 rfl, (nameFind_ok hN.ents).mono ?_⟩)⟩
    · have hb : ¬ kindT t q = 2 := of_decide_eq_false (not_t hb)
      rw [if_neg hb] at hG
      rw [hG]; exact ⟨rfl, hV1⟩
    · have hb : kindT t q = 2 := of_decide_eq_true (not_f hb)
      rw [if_pos hb] at hG
      rintro r V2 ⟨rfl, hV2⟩
      have hr := atI_range (s := l[i]) (hnode _ (getD_mem (t := t) (i := q) (by omega)))
      refine ⟨_, rfl, br_intro (fun h0 => ?_) (fun h0 => ?_)⟩
      · have h0 := of_decide_eq_true h0
        rw [if_pos (show atI (entsT t q) l[i] < 0 from h0)] at hG
        rw [hG]; exact ⟨rfl, hV1.trans hV2⟩
      · have h0 := of_decide_eq_false h0
        rw [if_neg (show ¬ atI (entsT t q) l[i] < 0 from h0)] at hG
        exact ⟨inI64 (by omega) (by omega), ⟨(atI (entsT t q) l[i]).toNat, i + 1, by unfold entsT; omega, by omega, by unfold entsT; omega, by omega, hG, hV1.trans hV2⟩, by omega⟩
  · have hge : i = l.length := by have := of_decide_eq_false hge; omega
    subst hge
    rw [List.drop_length] at hG
    rw [hG]; exact ⟨rfl, hV1⟩
theorem dirFind_ok {s : Sl} {t : Tre} {p : ByteArray} {V : View} (h : SlR V s t) (hp : p.size ≤ 9223372036854775807) (hg : Glo V) : CallV Tryd.prog 22 ⟨[treV s, .string p]⟩ V fun r V' => r = outF (findT t p) ∧ V.Le V' := by
  refine f22_x ?_
  unfold f22_n
  refine fun _ => (mayT_ok h).mono ?_
  rintro r V1 ⟨rfl, hV1⟩
  unfold findT
  refine ⟨_, rfl, br_intro (fun hb => ⟨by rw [if_neg (by rw [not_t hb]; decide)]; rfl, hV1⟩) (fun hb => ?_)⟩
  have hM := not_f hb
  rw [if_pos hM]
  refine (pathSplit_ok hp (hg.mono hV1)).mono ?_
  rintro r V2 ⟨⟨x, e, rfl, hx⟩, hV2⟩
  have hV02 := hV1.trans hV2
  refine ⟨x, e, rfl, ?_⟩
  cases hS : splitP p with
  | none =>
    rw [hS] at hx
    obtain ⟨rfl, rfl⟩ := hx
    exact br_intro (fun _ => ⟨rfl, hV02⟩) (fun h => absurd h (by decide))
  | some l =>
    rw [hS] at hx
    obtain ⟨rfl, hx⟩ := hx
    refine br_intro (fun h => absurd h (by decide)) (fun _ => (dirGo_ok (h.mono hV02) hx (mayT_all hM).1 (mayT_node hM)).mono ?_)
    rintro r V3 ⟨rfl, hV3⟩
    show ∃ _ _, outF _ = _ ∧ _
    cases hG : goF t 0 l with
    | ok q => exact ⟨_, _, rfl, by simp only [hG]; rfl, hV02.trans hV3⟩
    | error e => exact ⟨_, _, rfl, by simp only [hG]; rfl, hV02.trans hV3⟩
theorem dirParent_ok {s : Sl} {t : Tre} {p : ByteArray} {V : View} (h : SlR V s t) (hp : p.size ≤ 9223372036854775807) (hg : Glo V) : CallV Tryd.prog 23 ⟨[treV s, .string p]⟩ V fun r V' => r = outP (parentT t p) ∧ V.Le V' := by
  refine f23_x ?_
  unfold f23_n
  refine fun _ => (mayT_ok h).mono ?_
  rintro r V1 ⟨rfl, hV1⟩
  unfold parentT
  refine ⟨_, rfl, br_intro (fun hb => ⟨by rw [if_neg (by rw [not_t hb]; decide)]; rfl, hV1⟩) (fun hb => ?_)⟩
  have hM := not_f hb
  rw [if_pos hM]
  refine (pathLast_ok hp (hg.mono hV1)).mono ?_
  rintro r V2 ⟨rfl, hV2⟩
  have hV02 := hV1.trans hV2
  refine ⟨_, _, _, rfl, br_intro (fun h0 => ?_) (fun h0 => ?_)⟩
  · have h0 := of_decide_eq_false (not_t h0)
    rw [if_neg h0]; exact ⟨rfl, hV02⟩
  · have h0 := of_decide_eq_true (not_f h0)
    rw [if_pos h0]
    refine (dirFind_ok (h.mono hV02) (lastP_size hp) (hg.mono hV02)).mono ?_
    rintro r V3 ⟨rfl, hV3⟩
    have hV03 := hV02.trans hV3
    have hn := h.n
    cases hF : findT t (lastP p).1 with
    | error e =>
      have he := ends_only hF
      refine ⟨0, e, rfl, br_intro (fun _ => ⟨rfl, hV03⟩) (fun hc => ?_)⟩
      exact absurd (of_decide_eq_true (not_f hc)) he
    | ok q =>
      have hq := findT_range hF
      refine ⟨q, 0, rfl, br_intro (fun h => absurd h (by decide)) (fun _ => ?_)⟩
      have h12 := (mayT_all hM).1
      obtain ⟨ad2, sq, en, ha2, hc2, hN⟩ := (h.mono hV03).nodN (i := q) (by omega)
      refine ⟨by omega, by omega, ad2, ha2, _, cellsAt_nth hc2 0 rfl, br_intro (fun hb => ?_) (fun hb => ?_)⟩
      · have hb : ¬ kindT t q = 2 := of_decide_eq_false (not_t hb)
        simp only [if_neg hb]; exact ⟨rfl, hV03⟩
      · have hb : kindT t q = 2 := of_decide_eq_true (not_f hb)
        simp only [if_pos hb]; exact ⟨rfl, hV03⟩
theorem free1_ok {n : Nod} {s e : Sl} {V : View} : CallV Tryd.prog 35 ⟨[nodV n s e]⟩ V fun r V' => r = .bool (decide (n.kind = 0)) ∧ V' = V := by
  refine f35_x ?_
  unfold f35_n
  exact fun _ => ⟨rfl, rfl⟩
theorem free_ok {s : Sl} {t : Tre} {V : View} (h : SlR V s t) : CallV Tryd.prog 13 ⟨[treV s]⟩ V fun r V' => r = .int .i64 (freeT t) ∧ V.Le V' := by
  refine f13_x ?_
  unfold f13_n
  refine fun _ => (mayT_ok h).mono ?_
  rintro r V1 ⟨rfl, hV1⟩
  unfold freeT
  refine ⟨_, rfl, br_intro (fun hb => ⟨by rw [if_neg (by rw [not_t hb]; decide)], hV1⟩) (fun hb => ?_)⟩
  rw [if_pos (not_f hb)]
  refine (indexFuncN_ok (xs := []) (ys := []) (p := fun n => decide (n.kind = 0)) (h.mono hV1) (fun n _ a b _ => free1_ok (n := n) (s := a) (e := b))).mono ?_
  rintro r V2 ⟨rfl, rfl⟩
  exact ⟨_, rfl, rfl, hV1⟩
theorem has_ok {s : Sl} {z : Addr} {a : Int} {V : View} (h : V.cell? (z.add 0) = some (.slice s.a s.n s.c)) : CallV Tryd.prog 36 ⟨[.int .i64 a, .pointer (some z)]⟩ V fun r V' => r = .bool (decide (0 ≤ a) && decide (a < s.n)) ∧ V' = V := by
  refine f36_x ?_
  unfold f36_n
  refine joinP_cut (fun q V' => q.1 = (decide (0 ≤ a) && decide (a < s.n)) ∧ V' = V) (br_intro (fun h0 => ⟨s, h, by rw [h0]; rfl, rfl⟩) (fun h0 => ⟨by rw [h0]; rfl, rfl⟩)) ?_
  rintro ⟨q, ⟨⟩⟩ V1 ⟨h1, hV⟩
  simp only at h1 hV
  subst h1 hV
  exact ⟨rfl, rfl⟩
theorem inside_ok {s : Sl} {t : Tre} {a b : Int} {V : View} (h : SlR V s t) : CallV Tryd.prog 14 ⟨[treV s, .int .i64 a, .int .i64 b]⟩ V fun r V' => r = .bool (insideT t a b) ∧ V.Le V' := by
  refine f14_x ?_
  unfold f14_n
  intro z hz
  have hp := View.put_le (o := .cells ⟨[.slice s.a s.n s.c]⟩ 24 (0, 0)) hz
  have hsee : (V.put z (.cells ⟨[.slice s.a s.n s.c]⟩ 24 (0, 0))).see z = some (.cells ⟨[.slice s.a s.n s.c]⟩ 24 (0, 0)) := View.see_put_same _ _ _
  generalize V.put z (.cells ⟨[.slice s.a s.n s.c]⟩ 24 (0, 0)) = V0 at *
  have hcell : ∀ {V' : View}, V0.Le V' → V'.cell? ⟨z, 0, none⟩ = some (.slice s.a s.n s.c) := fun hV => cell_of_see (hV.see _ _ hsee) rfl
  have h' := h.mono hp
  have hn := h.n
  refine joinP_cut (fun q V' => q.1 = insideT t a b ∧ V0.Le V') ⟨s, cellsAt_one.2 (hcell (View.Le.refl _)), (mayT_ok h').mono ?_⟩ ?_
  · rintro r V1 ⟨rfl, hV1⟩
    unfold insideT
    refine ⟨_, rfl, br_intro (fun hM => ?_) (fun hM => ⟨by rw [hM]; rfl, hV1⟩)⟩
    have h12 := (mayT_all hM).1
    have hs12 : (s.n : Int) = 12 := by omega
    refine (has_ok (s := s) (hcell hV1)).mono ?_
    rintro r V2 ⟨rfl, rfl⟩
    rw [hs12]
    refine ⟨_, rfl, br_intro (fun ha => (has_ok (s := s) (hcell hV1)).mono ?_) (fun ha => ⟨by
      rw [hM, Bool.true_and, ha]; rfl, hV1⟩)⟩
    rintro r V3 ⟨rfl, rfl⟩
    rw [hs12]
    refine ⟨_, rfl, br_intro (fun hb => ?_) (fun hb => ⟨by
      rw [hM, Bool.true_and, ha, Bool.true_and, hb]; rfl, hV1⟩)⟩
    have ha' : 0 ≤ a ∧ a < 12 := by simpa using ha
    have hb' : 0 ≤ b ∧ b < 12 := by simpa using hb
    obtain ⟨ad, sq, en, had, hc, hN⟩ := (h'.mono hV1).nodN (i := a.toNat) (by omega)
    refine ⟨s, hcell hV1, by omega, by omega, ad, had, _, cellsAt_nth hc 0 rfl, br_intro (fun hk => ?_) (fun hk => ⟨?_, hV1⟩)⟩
    · have hk : kindT t a.toNat = 2 := of_decide_eq_true hk
      have hbl := below_ok (a := a.toNat) (h'.mono hV1) h12 (by omega) (fun n hn e he => by have := mayT_node hM n hn e he; omega)
      rw [show ((a.toNat : Nat) : Int) = a by omega] at hbl
      refine ⟨s, cellsAt_one.2 (hcell hV1), hbl.mono ?_⟩
      rintro r V4 ⟨y, rfl, hy, hV4⟩
      have hyn := hy.n
      simp only [List.length_map, List.length_range] at hyn
      obtain ⟨ad4, hx4, ha4, hc4⟩ := hy.bool (x := b) (by omega) (by omega)
      refine ⟨y, rfl, by omega, by omega, ad4, ha4, _, hc4, ?_, hV1.trans hV4⟩
      rw [hM, decide_eq_true ha'.1, decide_eq_true ha'.2, decide_eq_true hb'.1, decide_eq_true hb'.2, decide_eq_true hk]
      simp
    · have hk : ¬ kindT t a.toNat = 2 := of_decide_eq_false hk
      rw [decide_eq_false hk]; simp
  · rintro ⟨q, ⟨⟩⟩ V1 ⟨h1, hV⟩
    simp only at h1
    subst h1
    exact ⟨rfl, hp.trans hV⟩
theorem dirNames_ok {s : Sl} {t : Tre} {a : Int} {V : View} (h : SlR V s t) (h12 : t.length = 12) (he : ∀ n ∈ t, n.ents.length ≤ 10) : CallV Tryd.prog 15 ⟨[treV s, .int .i64 a]⟩ V fun r V' => r = .int .i64 (((allE t).countP (fun (x : Ent) => decide (x.node = a)) : Nat) : Int) ∧ V' = V := by
  refine f15_x ?_
  unfold f15_n
  have hn := h.n
  refine fun _ => ?_
  refine loop2 (k := .int .i64) (l := .int .i64) (fun (x : Int) (j : Int) V' => V' = V ∧ ∃ i : Nat, j = i ∧ i ≤ 12 ∧ x = ((allE (t.take i)).countP (fun (x : Ent) => decide (x.node = a)) : Nat)) (fun _ (j : Int) _ => 12 - j.toNat) ⟨rfl, 0, rfl, by omega, rfl⟩ ?_
  rintro (x : Int) (j : Int) V1 ⟨rfl, i, rfl, hi, rfl⟩
  refine br_intro (fun hlt => ?_) (fun hge => ?_)
  · have hlt : i < 12 := by have := of_decide_eq_true hlt; omega
    obtain ⟨ad, sq, en, ha, hc, hN⟩ := h.nodN (i := i) (by omega)
    have hmem : t.getD i default ∈ t := by rw [getD_at (by omega)]; exact List.getElem_mem _
    have hle := he _ hmem
    have hti := allE_take (t := t) (i := i) (by omega)
    have htk : (allE (t.take i)).length ≤ 10 * 12 := Nat.le_trans (allE_len fun n hn => he n (List.mem_of_mem_take hn)) (Nat.mul_le_mul_left _ (by simp; omega))
    have hen := hN.ents.n
    refine ⟨by omega, by omega, ad, ha, _, _, _, sq, en, hc, fun _ => ?_⟩
    generalize t.getD i default = nd at *
    refine loop2 (k := .int .i64) (l := .int .i64) (fun (x : Int) (j : Int) V' => V' = V1 ∧ ∃ k : Nat, j = k ∧ k ≤ nd.ents.length ∧ x = ((allE (t.take i) ++ nd.ents.take k).countP (fun (x : Ent) => decide (x.node = a)) : Nat)) (fun _ (j : Int) _ => nd.ents.length - j.toNat) ⟨rfl, 0, rfl, by omega, by simp⟩ ?_
    rintro (x : Int) (j : Int) V2 ⟨rfl, k, rfl, hk, rfl⟩
    have hcl := List.countP_le_length (p := fun (x : Ent) => decide (x.node = a)) (l := allE (t.take i) ++ nd.ents.take k)
    simp only [List.length_append, List.length_take] at hcl
    refine br_intro (fun hlt => ?_) (fun hge => ?_)
    · have hlt : k < nd.ents.length := by have := of_decide_eq_true hlt; omega
      obtain ⟨ad, ha, hc, _, _⟩ := hN.ents.entN hlt
      have etk : nd.ents.take (k + 1) = nd.ents.take k ++ [nd.ents.getD k default] := by rw [List.take_add_one, List.getElem?_eq_getElem hlt, getD_at hlt]; rfl
      refine ⟨by omega, by omega, ad, ha, _, _, hc, fun _ => ?_⟩
      generalize nd.ents.getD k default = e at *
      have hst : (allE (t.take i) ++ nd.ents.take (k + 1)).countP (fun (x : Ent) => decide (x.node = a)) = (allE (t.take i) ++ nd.ents.take k).countP (fun (x : Ent) => decide (x.node = a)) + if e.node = a then 1 else 0 := by
        rw [etk, ← List.append_assoc, List.countP_append]
        congr 1
        by_cases h1 : e.node = a <;> simp [h1]
      refine joinP_cut (fun g V' => g.1 = ((allE (t.take i) ++ nd.ents.take (k + 1)).countP (fun (x : Ent) => decide (x.node = a)) : Nat) ∧ V' = V2) (br_intro (fun h1 => ⟨inI64 (by omega) (by omega), ?_, rfl⟩) (fun h1 => ⟨?_, rfl⟩)) ?_
      · rw [hst, if_pos (of_decide_eq_true h1)]; rfl
      · rw [hst, if_neg (of_decide_eq_false h1)]; rfl
      · rintro ⟨g, ⟨⟩⟩ V3 ⟨h1, hV⟩
        simp only at h1 hV
        subst h1 hV
        exact ⟨inI64 (by omega) (by omega), ⟨rfl, k + 1, by omega, by omega, rfl⟩, by omega⟩
    · have hge : k = nd.ents.length := by have := of_decide_eq_false hge; omega
      subst hge
      rw [List.take_length] at *
      exact ⟨inI64 (by omega) (by omega), ⟨rfl, i + 1, by omega, by omega, by rw [hti]⟩, by omega⟩
  · have hge : i = 12 := by have := of_decide_eq_false hge; omega
    subst hge
    rw [List.take_of_length_le (by omega)]
    exact ⟨rfl, rfl⟩
/-! ### awake -/
theorem split_top : splitP (ba [47]) = some [] := by decide
theorem split_a : splitP (ba [47, 97]) = some [ba [97]] := by decide
theorem last_a : lastP (ba [47, 97]) = (ba [47], ba [97], 0) := by
  unfold lastP
  rw [split_a]
  decide
theorem find_top : findT firstT (ba [47]) = .ok 0 := by
  unfold findT; rw [if_pos mayT_first, split_top]; rfl
theorem find_a : findT firstT (ba [47, 97]) = .error 8 := by
  unfold findT; rw [if_pos mayT_first, split_a]; rfl
theorem parent_a : parentT firstT (ba [47, 97]) = .ok (0, ba [97]) := by
  unfold parentT
  rw [if_pos mayT_first, last_a, if_pos rfl, find_top]
  rfl
theorem inside_top : insideT firstT 0 0 = true := by
  unfold insideT
  rw [mayT_first]
  have : metB firstT 0 0 = true := metB_iff.2 .refl
  simp only [Int.toNat_zero, this]
  decide
theorem free_first : freeT firstT = 1 := by
  unfold freeT; rw [if_pos mayT_first]; decide
theorem awake15_ok {V : View} (hg : Glo V) : CallV Tryd.prog 12 ⟨[]⟩ V fun r V' => r = .bool true ∧ V.Le V' := by
  refine f12_x (_u := ()) ?_
  unfold f12_n
  refine first_ok.mono ?_
  rintro r V1 ⟨x, rfl, hx, hV1⟩
  refine ⟨x, rfl, fun _ => (dirFind_ok (p := ba [47]) hx (by decide) (hg.mono hV1)).mono ?_⟩
  rintro r V2 ⟨rfl, hV2⟩
  have q2 := hV1.trans hV2
  rw [find_top]
  refine ⟨_, _, rfl, (dirFind_ok (p := ba [47, 97]) (hx.mono hV2) (by decide) (hg.mono q2)).mono ?_⟩
  rintro r V3 ⟨rfl, hV3⟩
  have q3 := q2.trans hV3
  rw [find_a]
  refine ⟨_, _, rfl, (dirParent_ok (p := ba [47, 97]) (hx.mono (hV2.trans hV3)) (by decide) (hg.mono q3)).mono ?_⟩
  rintro r V4 ⟨rfl, hV4⟩
  have q4 := q3.trans hV4
  rw [parent_a]
  refine ⟨_, _, _, rfl, joinP_cut (fun g V' => g.1 = true ∧ V.Le V') ((mayT_ok (hx.mono ((hV2.trans hV3).trans hV4))).mono ?_) ?_⟩
  · rintro r V5 ⟨rfl, hV5⟩
    rw [mayT_first]
    refine ⟨_, rfl, br_intro (fun _ => (free_ok (hx.mono (((hV2.trans hV3).trans hV4).trans hV5))).mono ?_) (fun h => absurd h (by decide))⟩
    rintro r V6 ⟨rfl, hV6⟩
    rw [free_first]
    refine ⟨_, rfl, br_intro (fun _ => (inside_ok (a := 0) (b := 0) (hx.mono ((((hV2.trans hV3).trans hV4).trans hV5).trans hV6))).mono ?_) (fun h => absurd h (by decide))⟩
    rintro r V7 ⟨rfl, hV7⟩
    rw [inside_top]
    exact ⟨_, rfl, rfl, ((q4.trans hV5).trans hV6).trans hV7⟩
  · rintro ⟨g, ⟨⟩⟩ V5 ⟨h1, hV⟩
    simp only at h1
    subst h1
    exact ⟨rfl, hV⟩
theorem awake15J {V V0 : View} (hle : V0.Le V) (hg : Glo V) {Q : Bool → View → Prop} (hQ : ∀ V', V0.Le V' → Q true V') : CallV Tryd.prog 12 ⟨[]⟩ V fun r V' => ∃ x : Bool, r = .bool x ∧ Q x V' :=
  (awake15_ok hg).mono fun r V' ⟨h1, h2⟩ => ⟨true, h1, hQ V' (hle.trans h2)⟩
end Go.Proofs.YtpalkdmngckcoaaDoor

/- The contract of the reference's Name. -/
namespace Go.Proofs.YtpalkdmngckcoaaDoor
open Go
theorem refName_ok {s : ByteArray} {V : View} (hs : s.size ≤ 9223372036854775807) : CallV Tryd.prog 81 ⟨[.string s]⟩ V fun r V' => r = .bool (mayB s) ∧ V' = V := by
  refine f81_x ?_
  unfold f81_n
  refine br_intro (fun h => ⟨?_, rfl⟩) (fun h => ?_)
  · congr 1
    symm
    unfold mayB
    rw [Bool.and_eq_false_iff]
    right
    rw [Bool.eq_false_iff]
    intro h2
    simp at h h2
    simp [h2] at h
    omega
  have hpre : (1 ≤ s.size && s.size ≤ 8 && !decide (s = ByteArray.mk #[46]) && !decide (s = ByteArray.mk #[46, 46])) = true := by
    simp at h ⊢
    refine ⟨⟨by omega, h.1.2⟩, h.2⟩
  refine loop1 (k := .int .i64) (fun (x : Int) V' => V' = V ∧ 0 ≤ x ∧ x ≤ s.size ∧ (s.data.toList.take x.toNat).all (fun b => okB b.toNat) = true) (fun (x : Int) _ => s.size - x.toNat) ⟨rfl, by omega, by omega, rfl⟩ ?_
  rintro (x : Int) V' ⟨rfl, h0, h1, h2⟩
  have hsz : s.data.toList.length = s.size := by simp
  refine br_intro (fun hlt => ?_) (fun hge => ?_)
  · have hlt : x < s.size := by simpa using hlt
    have hx : x.toNat < s.data.toList.length := by omega
    have hg : s.data.toList.getD x.toNat 0 = s.data.toList[x.toNat] := by rw [List.getD_eq_getElem?_getD, List.getElem?_eq_getElem hx]; rfl
    refine ⟨h0, hlt, ?_⟩
    rw [hg]
    generalize hb : s.data.toList[x.toNat] = b
    refine br_intro (fun hn => ⟨?_, rfl⟩) (fun hn => ⟨inI64 (by omega) (by omega), ⟨rfl, by omega, by omega, ?_⟩, by omega⟩)
    · have hk : okB b.toNat = false := by
        unfold okB
        simp at hn ⊢
        omega
      unfold mayB
      have : (s.data.toList.all fun b => okB b.toNat) = false := by
        rw [List.all_eq_false]
        exact ⟨b, hb ▸ List.getElem_mem hx, by simp [hk]⟩
      rw [show bl s = s.data.toList from rfl, this]; rfl
    · have hk : okB b.toNat = true := by
        unfold okB
        simp at hn ⊢
        omega
      rw [show (x + 1).toNat = x.toNat + 1 by omega, List.take_add_one, List.all_append, h2, List.getElem?_eq_getElem hx, hb]
      simp [hk]
  · have hge : ¬ x < s.size := by simpa using hge
    rw [List.take_of_length_le (by omega)] at h2
    refine ⟨?_, rfl⟩
    unfold mayB
    rw [show bl s = s.data.toList from rfl, h2, hpre]; rfl
end Go.Proofs.YtpalkdmngckcoaaDoor

/- Contracts of the reference: entries, nodes, names; which inputs are light. -/
namespace Go.Proofs.YtpalkdmngckcoaaDoor
open Go
theorem refL_ok {s : Sl} {l : List Ent} {V : View} (h : SlR V s l) : CallV Tryd.prog 58 ⟨[.slice s.a s.n s.c]⟩ V fun r V' => r = .bool (mayL l) ∧ V' = V := by
  refine f58_x ?_
  unfold f58_n
  have hn := h.n; have hc := h.c; have hm := h.lim
  refine br_intro (fun h10 => ⟨?_, rfl⟩) (fun h10 => ?_)
  · have h10 := of_decide_eq_true h10
    unfold mayL
    rw [decide_eq_false (show ¬ l.length ≤ 10 by omega), Bool.and_false]
  have h10 := of_decide_eq_false h10
  have e10 : mayL l = (List.range l.length).all (okE l) := by
    unfold mayL
    rw [decide_eq_true (show l.length ≤ 10 by omega), Bool.and_true]
  rw [e10]
  refine loop1 (k := .int .i64) (fun (x : Int) V' => V' = V ∧ ∃ i : Nat, x = i ∧ i ≤ l.length ∧ (List.range i).all (okE l) = true) (fun (x : Int) _ => s.n - x.toNat) ⟨rfl, 0, rfl, by omega, rfl⟩ ?_
  rintro (x : Int) V' ⟨rfl, i, rfl, hi, hall⟩
  refine br_intro (fun hlt => ?_) (fun hge => ?_)
  · have hlt : i < l.length := by have := of_decide_eq_true hlt; omega
    obtain ⟨ad, ha, hcell, hsz, hin⟩ := h.entN hlt
    refine ⟨by omega, by omega, ad, ha, _, _, hcell, fun _ => ?_⟩
    refine joinP_cut (fun q V1 => q.1 = (!okE l i) ∧ V1 = V') ⟨trivial, V', View.Le.refl _, (refName_ok hsz).mono ?_⟩ ?_
    · rintro r V1 ⟨rfl, rfl⟩
      have d1 : decide ((l.getD i default).node < 1) = !decide (1 ≤ (l.getD i default).node) := dec_not (by omega)
      have d2 : decide ((12 : Int) ≤ (l.getD i default).node) = !decide ((l.getD i default).node < 12) := dec_not (by omega)
      rw [d1, d2]
      refine ⟨_, rfl, View.Le.refl _, V1, View.Le.refl _, View.Le.refl _, br_intro (fun hs => ⟨?_, rfl⟩) (fun hs => br_intro (fun h0 => ?_) (fun h0 => ⟨?_, rfl⟩))⟩
      · unfold okE soleE; rw [not_t hs]; rfl
      · have h0 : 0 < i := by have := of_decide_eq_true h0; omega
        obtain ⟨j, rfl⟩ : ∃ j, i = j + 1 := ⟨i - 1, by omega⟩
        obtain ⟨ad2, ha2, hcell2, _, _⟩ := h.entN (i := j) (by omega)
        have e1 : (((j + 1 : Nat) : Int) - 1).toNat = j := by omega
        refine ⟨inI64 (by omega) (by omega), by omega, by omega, ad2, ha2, (l.getD j default).name, ?_, ?_, rfl⟩
        · rw [e1]; exact cellsAt_nth hcell2 0 rfl
        · unfold okE soleE
          rw [not_f hs, decide_eq_false (show ¬ j + 1 = 0 by omega), Nat.add_sub_cancel]
          generalize sLess (l.getD j default).name (l.getD (j + 1) default).name = g1
          cases decide (1 ≤ (l.getD (j + 1) default).node) <;> cases decide ((l.getD (j + 1) default).node < 12) <;> cases g1 <;> rfl
      · have h0 : i = 0 := by have := of_decide_eq_false h0; omega
        subst h0
        unfold okE soleE
        rw [not_f hs]
        cases decide (1 ≤ (l.getD 0 default).node) <;> cases decide ((l.getD 0 default).node < 12) <;> rfl
    · rintro ⟨q, ⟨⟩⟩ V1 ⟨h1, hV⟩
      simp only at h1 hV
      subst h1 hV
      dsimp only [unc]
      refine br_intro (fun hb => ⟨?_, rfl⟩) (fun hb => ⟨inI64 (by omega) (by omega), ⟨rfl, i + 1, by omega, by omega, all_step hall (by simpa using hb)⟩, by omega⟩)
      rw [all_stop hlt (by simpa using hb)]
  · have hge : i = l.length := by have := of_decide_eq_false hge; omega
    subst hge
    exact ⟨by rw [hall], rfl⟩
theorem refN_ok {n : Nod} {s e : Sl} {V : View} (h : NodR V s e n) : CallV Tryd.prog 31 ⟨[nodV n s e]⟩ V fun r V' => r = .bool (mayN n) ∧ V' = V := by
  refine f31_x ?_
  unfold f31_n
  have hsn := h.seqs.n; have hen := h.ents.n
  have e1 : decide (((s.n : Nat) : Int) = 0) = decide (n.seqs.length = 0) := decide_eq_decide.2 (by omega)
  have e2 : decide (((e.n : Nat) : Int) = 0) = decide (n.ents.length = 0) := decide_eq_decide.2 (by omega)
  have e3 : decide (((s.n : Nat) : Int) = 5) = decide (n.seqs.length = 5) := decide_eq_decide.2 (by omega)
  rw [e1, e2, e3]
  refine fun _ => br_intro (fun h0 => ⟨?_, rfl⟩) (fun h0 => br_intro (fun h2 => ?_) (fun h2 => br_intro (fun h1 => ?_) (fun h1 => ⟨?_, rfl⟩)))
  · have h0 : n.kind = 0 := of_decide_eq_true h0
    unfold mayN; rw [if_pos h0]
    cases decide (n.links = 0) <;> cases decide (n.size = 0) <;> cases decide (n.seqs.length = 0) <;> rfl
  · have h0 : ¬ n.kind = 0 := of_decide_eq_false h0
    have h2 : n.kind = 2 := of_decide_eq_true h2
    have h1 : ¬ n.kind = 1 := by omega
    have hm : mayN n = (decide (n.links = 1) && decide (n.size = 0) && decide (n.seqs.length = 0) && mayL n.ents) := by unfold mayN; rw [if_neg h0, if_neg h1, if_pos h2]
    refine joinP_cut (fun q V1 => q.1 = mayN n ∧ V1 = V) (br_intro (fun hb => (refL_ok h.ents).mono ?_) (fun hb => ⟨?_, rfl⟩)) ?_
    · rintro r V1 ⟨rfl, rfl⟩
      refine ⟨_, rfl, ?_, rfl⟩
      rw [hm]
      cases hA : decide (n.links = 1) <;> cases hB : decide (n.size = 0) <;> cases hC : decide (n.seqs.length = 0) <;> simp_all
    · rw [hm]
      cases hA : decide (n.links = 1) <;> cases hB : decide (n.size = 0) <;> cases hC : decide (n.seqs.length = 0) <;> simp_all
    · rintro ⟨q, ⟨⟩⟩ V1 ⟨h1, hV⟩
      simp only at h1 hV
      subst h1 hV
      exact ⟨rfl, rfl⟩
  · have h0 : ¬ n.kind = 0 := of_decide_eq_false h0
    have h1 : n.kind = 1 := of_decide_eq_true h1
    have hm : mayN n = fileB n := by unfold mayN; rw [if_neg h0, if_pos h1]
    rw [hm]
    have d1 : decide (n.links < 0) = !decide (0 ≤ n.links) := dec_not (by omega)
    have d2 : decide ((120 : Int) < n.links) = !decide (n.links ≤ 120) := dec_not (by omega)
    have d3 : decide (n.size < 0) = !decide (0 ≤ n.size) := dec_not (by omega)
    have d4 : decide ((80 : Int) < n.size) = !decide (n.size ≤ 80) := dec_not (by omega)
    rw [d1, d2, d3, d4]
    have hcond : (bif bif bif bif bif !decide (0 ≤ n.links) then true else !decide (n.links ≤ 120) then true else !decide (0 ≤ n.size) then true else !decide (n.size ≤ 80) then true else !decide (n.seqs.length = 5) then true else !decide (n.ents.length = 0)) = !(within n.links 120 && within n.size 80 && decide (n.seqs.length = 5) && decide (n.ents.length = 0)) := by
      unfold within
      cases decide (0 ≤ n.links) <;> cases decide (n.links ≤ 120) <;> cases decide (0 ≤ n.size) <;> cases decide (n.size ≤ 80) <;> cases decide (n.seqs.length = 5) <;> cases decide (n.ents.length = 0) <;> rfl
    rw [hcond]
    refine br_intro (fun hb => ⟨?_, rfl⟩) (fun hb => ?_)
    · have hb := not_t hb
      unfold fileB; rw [hb]; rfl
    · have hb := not_f hb
      have h5 : n.seqs.length = 5 := by simp at hb; exact hb.1.2
      refine loop1 (k := .int .i64) (fun (x : Int) V' => V' = V ∧ ∃ i : Nat, x = i ∧ i ≤ n.seqs.length ∧ (List.range i).all (okS n.size n.seqs) = true) (fun (x : Int) _ => s.n - x.toNat) ⟨rfl, 0, rfl, by omega, rfl⟩ ?_
      rintro (x : Int) V' ⟨rfl, i, rfl, hi, hall⟩
      refine br_intro (fun hlt => ?_) (fun hge => ?_)
      · have hlt : i < n.seqs.length := by have := of_decide_eq_true hlt; omega
        obtain ⟨ad, ha, hcell, hin⟩ := h.seqs.intN hlt
        refine ⟨by omega, by omega, ad, ha, _, hcell, ?_⟩
        have d5 : decide (n.seqs.getD i 0 < 0) = !decide (0 ≤ n.seqs.getD i 0) := dec_not (by omega)
        have d6 : decide ((1099511627776 : Int) < n.seqs.getD i 0) = !decide (n.seqs.getD i 0 ≤ 1099511627776) := dec_not (by omega)
        rw [d5, d6]
        have hok : okS n.size n.seqs i = ((decide (0 ≤ n.seqs.getD i 0) && decide (n.seqs.getD i 0 ≤ 1099511627776)) && !(decide (n.size ≤ (i : Int) * 16) && !decide (n.seqs.getD i 0 = 0))) := rfl
        refine joinP_cut (fun q V1 => q.1 = (!okS n.size n.seqs i) ∧ V1 = V') (br_intro (fun hc => ⟨?_, rfl⟩) (fun hc => br_intro (fun hz => ⟨inI64 (by omega) (by omega), ?_, rfl⟩) (fun hz => ⟨?_, rfl⟩))) ?_
        · rw [hok]
          cases hA : decide (0 ≤ n.seqs.getD i 0) <;> cases hB : decide (n.seqs.getD i 0 ≤ 1099511627776) <;> rw [hA, hB] at hc <;> first | rfl | cases hc
        · rw [hok, not_t hz]
          cases hA : decide (0 ≤ n.seqs.getD i 0) <;> cases hB : decide (n.seqs.getD i 0 ≤ 1099511627776) <;> rw [hA, hB] at hc <;> first | (cases decide (n.size ≤ (i : Int) * 16) <;> rfl) | cases hc
        · rw [hok, not_f hz]
          cases hA : decide (0 ≤ n.seqs.getD i 0) <;> cases hB : decide (n.seqs.getD i 0 ≤ 1099511627776) <;> rw [hA, hB] at hc <;> first | (cases decide (n.size ≤ (i : Int) * 16) <;> rfl) | cases hc
        · rintro ⟨q, ⟨⟩⟩ V2 ⟨h1, hV⟩
          simp only at h1 hV
          subst h1 hV
          dsimp only [unc]
          refine br_intro (fun hq => ⟨?_, rfl⟩) (fun hq => ⟨inI64 (by omega) (by omega), ⟨rfl, i + 1, by omega, by omega, all_step hall (by simpa using hq)⟩, by omega⟩)
          unfold fileB
          rw [all_stop hlt (by simpa using hq), Bool.and_false]
      · have hge : i = n.seqs.length := by have := of_decide_eq_false hge; omega
        subst hge
        refine ⟨?_, rfl⟩
        unfold fileB; rw [hb, hall]; rfl
  · have h0 : ¬ n.kind = 0 := of_decide_eq_false h0
    have h1 : ¬ n.kind = 1 := of_decide_eq_false h1
    have h2 : ¬ n.kind = 2 := of_decide_eq_false h2
    unfold mayN; rw [if_neg h0, if_neg h1, if_neg h2]
theorem wrap_of_in {n : Int} (h : inI .i64 n) : IntKind.wrap .i64 n = n := by
  have h := inI64_iff.1 h
  unfold IntKind.wrap
  simp [IntKind.signed, IntKind.bits]
  omega
/-! ### which inputs are light -/
theorem light13s_ok {s : Sl} {l : List Ent} {V : View} (h : SlR V s l) : CallV Tryd.prog 57 ⟨[.slice s.a s.n s.c]⟩ V fun r V' => ∃ x : Int, r = .int .i64 x ∧ 0 ≤ x ∧ x ≤ 1 ∧ (x = 0 → l.length ≤ 60) ∧ ((l.length ≤ 10 ∧ ∀ e ∈ l, e.name.size ≤ 8) → x = 0) ∧ V' = V := by
  refine f57_x ?_
  unfold f57_n
  have hn := h.n; have hm := h.lim
  refine loop2 (k := .int .i64) (l := .int .i64) (fun (x : Int) (j : Int) V' => V' = V ∧ ∃ i : Nat, j = i ∧ i ≤ l.length ∧ ((l.length ≤ 10 ∧ ∀ e ∈ l, e.name.size ≤ 8) → 0 ≤ x ∧ x ≤ 8 * i)) (fun _ (j : Int) _ => s.n - j.toNat) ⟨rfl, 0, rfl, by omega, fun _ => by omega⟩ ?_
  rintro (x : Int) (j : Int) V' ⟨rfl, i, rfl, hi, hx⟩
  refine br_intro (fun hlt => ?_) (fun hge => br_intro (fun hc => ⟨1, rfl, by decide, by decide, fun h => absurd h (by decide), fun hs => ?_, rfl⟩) (fun hc => ⟨0, rfl, by decide, by decide, fun _ => ?_, fun _ => rfl, rfl⟩))
  · have hlt : i < l.length := by have := of_decide_eq_true hlt; omega
    obtain ⟨ad, ha, hcell, _, _⟩ := h.entN hlt
    have hw : IntKind.wrap .i64 ((i : Int) + 1) = (i : Int) + 1 := wrap_of_in (inI64 (by omega) (by omega))
    refine ⟨by omega, by omega, ad, ha, _, _, hcell, fun _ => ?_⟩
    rw [hw]
    refine ⟨⟨rfl, i + 1, by omega, by omega, fun hs => ?_⟩, by omega⟩
    have h1 := hx hs
    have h2 := hs.2 (l.getD i default) (by rw [getD_at hlt]; exact List.getElem_mem _)
    have h3 := hs.1
    rw [wrap_of_in (inI64 (by omega) (by omega))]
    omega
  · exfalso
    have h1 := hx hs
    have h3 := hs.1
    rw [decide_eq_false (show ¬ (60 : Int) < (s.n : Int) by omega)] at hc
    have := of_decide_eq_true hc
    omega
  · by_cases h6 : (60 : Int) < (s.n : Int)
    · rw [decide_eq_true h6] at hc; cases hc
    · omega
theorem light14s_ok {n : Nod} {s e : Sl} {V : View} (h : NodR V s e n) : CallV Tryd.prog 30 ⟨[nodV n s e]⟩ V fun r V' => ∃ x : Int, r = .int .i64 x ∧ 0 ≤ x ∧ x ≤ 1 ∧ (x = 0 → n.seqs.length ≤ 60 ∧ n.ents.length ≤ 60) ∧ (mayN n = true → x = 0) ∧ V' = V := by
  refine f30_x ?_
  unfold f30_n
  have hn := h.seqs.n
  refine fun _ => br_intro (fun hb => ⟨1, rfl, by decide, by decide, fun h => absurd h (by decide), fun hm => ?_, rfl⟩) (fun hb => (light13s_ok h.ents).mono ?_)
  · exfalso
    have hb := of_decide_eq_true hb
    have := mayN_seqs hm
    omega
  · have hb := of_decide_eq_false hb
    rintro r V' ⟨x, rfl, h1, h2, h3, h4, rfl⟩
    exact ⟨x, rfl, x, rfl, h1, h2, fun hx => ⟨by omega, h3 hx⟩, fun hm => h4 ⟨mayL_len (mayN_ents hm), fun e he => (mayB_size (mayL_node (mayN_ents hm) he).2.2).2⟩, rfl⟩
/-- A tree that can be gone through. -/
def LightT (t : Tre) : Prop := t.length ≤ 40 ∧ ∀ n ∈ t, n.seqs.length ≤ 60 ∧ n.ents.length ≤ 60
theorem light15s_ok {s : Sl} {t : Tre} {V : View} (h : SlR V s t) : CallV Tryd.prog 10 ⟨[treV s]⟩ V fun r V' => ∃ x : Int, r = .int .i64 x ∧ 0 ≤ x ∧ x ≤ 40 ∧ (x = 0 → LightT t) ∧ ((t.length = 12 ∧ ∀ n ∈ t, mayN n = true) → x = 0) ∧ V' = V := by
  refine f10_x ?_
  unfold f10_n
  have hn := h.n
  refine fun _ => br_intro (fun h40 => ⟨1, rfl, by decide, by decide, fun h => absurd h (by decide), fun hm => ?_, rfl⟩) (fun h40 => ?_)
  · exfalso
    have h40 := of_decide_eq_true h40
    omega
  have h40 := of_decide_eq_false h40
  refine loop2 (k := .int .i64) (l := .int .i64) (fun (x : Int) (j : Int) V' => V' = V ∧ ∃ i : Nat, j = i ∧ i ≤ t.length ∧ 0 ≤ x ∧ x ≤ i ∧ (x = 0 → ∀ n ∈ t.take i, n.seqs.length ≤ 60 ∧ n.ents.length ≤ 60) ∧ ((t.length = 12 ∧ ∀ n ∈ t, mayN n = true) → x = 0)) (fun _ (j : Int) _ => s.n - j.toNat) ⟨rfl, 0, rfl, by omega, by omega, by omega, fun _ n hn => by simp at hn, fun _ => rfl⟩ ?_
  rintro (x : Int) (j : Int) V' ⟨rfl, i, rfl, hi, h0, h1, h2, h3⟩
  refine br_intro (fun hlt => ?_) (fun hge => ?_)
  · have hlt : i < t.length := by have := of_decide_eq_true hlt; omega
    obtain ⟨ad, sq, en, ha, hc, hN⟩ := h.nodN hlt
    refine ⟨by omega, by omega, ad, ha, _, _, _, sq, en, hc, fun _ => (light14s_ok hN).mono ?_⟩
    rintro r V1 ⟨y, rfl, y0, y1, y2, y3, rfl⟩
    refine ⟨y, rfl, inI64 (by omega) (by omega), inI64 (by omega) (by omega), ⟨rfl, i + 1, by omega, by omega, by omega, by omega, fun hxy n hn => ?_, fun hm => ?_⟩, by omega⟩
    · rw [List.take_add_one, List.getElem?_eq_getElem hlt] at hn
      rcases List.mem_append.1 hn with hn | hn
      · exact h2 (by omega) n hn
      · simp at hn
        subst hn
        have := y2 (by omega)
        rw [getD_at hlt] at this; exact this
    · have := y3 (hm.2 _ (by rw [getD_at hlt]; exact List.getElem_mem _))
      have := h3 hm
      omega
  · have hge : i = t.length := by have := of_decide_eq_false hge; omega
    subst hge
    rw [List.take_length] at h2
    exact ⟨x, rfl, h0, by omega, fun hx => ⟨by omega, h2 hx⟩, h3, rfl⟩
theorem light15_ok {s : Sl} {t : Tre} {V : View} (h : SlR V s t) : CallV Tryd.prog 10 ⟨[treV s]⟩ V fun r V' => ∃ x : Int, r = .int .i64 x ∧ 0 ≤ x ∧ x ≤ 40 ∧ (x = 0 → t.length ≤ 40) ∧ V' = V :=
  (light15s_ok h).mono fun _ _ ⟨x, a, b, c, d, _, e⟩ => ⟨x, a, b, c, fun h => (d h).1, e⟩
end Go.Proofs.YtpalkdmngckcoaaDoor

/- The reference's MayTree: it answers as dir.May does. -/
namespace Go.Proofs.YtpalkdmngckcoaaDoor
open Go
def nodK (t : Tre) (i : Nat) : Bool := mayN (t.getD i default) && (entsT t i).all fun e => !decide (kindT t e.node.toNat = 0)
abbrev namedT (t : Tre) (a : Int) : Nat := (allE t).countP (fun (x : Ent) => decide (x.node = a))
noncomputable def onT (t : Tre) (i : Nat) : Bool := metB t 0 i && decide (kindT t i = 2)
noncomputable def hang2 (t : Tre) (i : Nat) : Bool :=
  if kindT t i = 2 then onT t i && (decide (i = 0) || decide (((namedT t i : Nat) : Int) = 1)) else if kindT t i = 1 then decide ((t.getD i default).links = (namedT t i : Nat)) else true
noncomputable def refMay (t : Tre) : Bool := decide (t.length = 12) && decide (kindT t 0 = 2) && (List.range 12).all (nodK t) && apartL (allS t) && (List.range 12).all (hang2 t)
theorem kind_of {n : Nod} (h : mayN n = true) : n.kind = 0 ∨ n.kind = 1 ∨ n.kind = 2 := by
  unfold mayN at h
  split at h
  · rename_i hk; exact .inl hk
  · split at h
    · rename_i hk; exact .inr (.inl hk)
    · split at h
      · rename_i hk; exact .inr (.inr hk)
      · cases h
theorem refMay_eq (t : Tre) : refMay t = mayT t := by
  by_cases h12 : t.length = 12
  rotate_left
  · unfold refMay mayT; rw [decide_eq_false h12]; rfl
  by_cases hk : kindT t 0 = 2
  rotate_left
  · unfold refMay mayT; rw [decide_eq_false hk]; simp
  by_cases hall : t.all mayN = true
  rotate_left
  · unfold refMay mayT
    have h1 : t.all mayN = false := by simpa using hall
    have h2 : (List.range 12).all (nodK t) = false := by
      rw [List.all_eq_false] at h1 ⊢
      obtain ⟨n, hn, hm⟩ := h1
      obtain ⟨i, hi, rfl⟩ := List.getElem_of_mem hn
      refine ⟨i, List.mem_range.2 (by omega), ?_⟩
      unfold nodK
      rw [getD_at hi]
      simp [hm]
    rw [h1, h2]; simp
  have hall' : ∀ n ∈ t, mayN n = true := List.all_eq_true.1 hall
  have hmem : ∀ i, i < 12 → t.getD i default ∈ t := fun i hi => by rw [getD_at (by omega)]; exact List.getElem_mem _
  have hmn : ∀ i, i < 12 → mayN (t.getD i default) = true := fun i hi => hall' _ (hmem i hi)
  unfold refMay mayT
  rw [decide_eq_true h12, decide_eq_true hk, hall]
  simp only [Bool.true_and, Bool.and_true]
  have hcnt : ∀ i, i < 12 → (cnt 12 (allE t)).getD i 0 = (namedT t i : Nat) := fun i hi => cnt_get 12 _ hi
  have hin : ∀ (i : Nat) (e : Ent), i < 12 → e ∈ entsT t i → e ∈ allE t := fun i e hi he => List.mem_flatMap.2 ⟨_, hmem i hi, he⟩
  rw [Bool.eq_iff_iff]
  simp only [Bool.and_eq_true, List.all_eq_true, List.mem_range]
  constructor
  · rintro ⟨⟨hN, hA⟩, hH⟩
    refine ⟨fun i hi => ?_, hA⟩
    have h2 := hH i hi
    rw [hcnt i hi]
    unfold hang2 at h2
    unfold hangB
    split at h2
    · rename_i hk2
      rw [if_pos hk2]
      unfold onT at h2
      simp only [Bool.and_eq_true] at h2
      rw [h2.1.1, Bool.true_and, ← h2.2]
      congr 1
      exact decide_eq_decide.2 (by omega)
    · rename_i hk2
      rw [if_neg hk2]
      split at h2
      · rename_i hk1; rw [if_pos hk1]; exact h2
      · rename_i hk1
        rw [if_neg hk1]
        have hk0 : kindT t i = 0 := by
          rcases kind_of (hmn i hi) with h | h | h
          · exact h
          · exact absurd h hk1
          · exact absurd h hk2
        apply decide_eq_true
        have : namedT t i = 0 := by
          rw [List.countP_eq_zero]
          intro e he hd
          have hd := of_decide_eq_true hd
          obtain ⟨n, hn, hen⟩ := List.mem_flatMap.1 he
          obtain ⟨j, hj, rfl⟩ := List.getElem_of_mem hn
          have hj12 : j < 12 := by omega
          have h3 := hN j hj12
          unfold nodK at h3
          simp only [Bool.and_eq_true, List.all_eq_true] at h3
          have h4 := h3.2 e (by show e ∈ (t.getD j default).ents; rw [getD_at hj]; exact hen)
          rw [hd, Int.toNat_natCast] at h4
          simp [hk0] at h4
        omega
  · rintro ⟨hH, hA⟩
    have hB : ∀ i, i < 12 → hangB (t.getD i default) i (namedT t i : Nat) (metB t 0 i) = true := fun i hi => by rw [← hcnt i hi]; exact hH i hi
    refine ⟨⟨fun i hi => ?_, hA⟩, fun i hi => ?_⟩
    · unfold nodK
      rw [hmn i hi, Bool.true_and, List.all_eq_true]
      intro e he
      have hnode := mayL_node (mayN_ents (hmn i hi)) he
      obtain ⟨q, hq⟩ : ∃ q : Nat, e.node = q := ⟨e.node.toNat, by omega⟩
      rw [hq, Int.toNat_natCast]
      have hb := hB q (by omega)
      by_cases hk0 : kindT t q = 0
      · exfalso
        unfold hangB at hb
        have hk0' : (t.getD q default).kind = 0 := hk0
        rw [if_neg (by omega), if_neg (by omega)] at hb
        have hb := of_decide_eq_true hb
        have : 0 < namedT t q := List.countP_pos_iff.2 ⟨e, hin i e hi he, decide_eq_true hq⟩
        omega
      · rw [decide_eq_false hk0]; rfl
    · have hb := hB i hi
      unfold hangB at hb
      unfold hang2
      split at hb
      · rename_i hk2
        rw [if_pos (show kindT t i = 2 from hk2)]
        simp only [Bool.and_eq_true] at hb
        unfold onT
        rw [hb.1, decide_eq_true (show kindT t i = 2 from hk2), Bool.true_and, Bool.true_and, ← hb.2]
        congr 1
        exact decide_eq_decide.2 (by omega)
      · rename_i hk2
        rw [if_neg (show ¬ kindT t i = 2 from hk2)]
        split at hb
        · rename_i hk1; rw [if_pos (show kindT t i = 1 from hk1)]; exact hb
        · rename_i hk1; rw [if_neg (show ¬ kindT t i = 1 from hk1)]
/-- A map that holds 1 behind what was met. -/
def SeenM (V : View) (r : Nat) (l : List Int) : Prop := ∃ es cl, V.see r = some (.map es cl) ∧ IntK es.toList ∧ ∀ k, (vlk k es.toList).getD (.int .i64 0) = .int .i64 (if k ∈ l then 1 else 0)
theorem SeenM.put {V : View} {r : Nat} {l : List Int} (h : SeenM V r l) (x : Int) : ∃ es cl f, V.see r = some (.map es cl) ∧ mfind (.int .i64 x) es.toList 0 = some f ∧ found (.int .i64 0) f = .int .i64 (if x ∈ l then 1 else 0) ∧ SeenM (V.put r (mput es cl f (.int .i64 x) (.int .i64 1))) r (l ++ [x]) := by
  obtain ⟨es, cl, hs, hk, hv⟩ := h
  obtain ⟨f, hf, hfd, es', cl', hm, hk', hv'⟩ := mput_int (cl := cl) (k := x) (v := .int .i64 1) hk
  refine ⟨es, cl, f, hs, hf, by rw [hfd, hv], es', cl', by rw [View.see_put_same, hm], hk', fun k => ?_⟩
  rw [hv']
  by_cases e : k = x
  · rw [if_pos e, if_pos (by simp [e])]; rfl
  · rw [if_neg e, hv]
    by_cases hm : k ∈ l
    · rw [if_pos hm, if_pos (by simp [hm])]
    · rw [if_neg hm, if_neg (by simp [hm, e])]
theorem apart_snoc2 {l : List Int} {x : Int} (h : apartL l = true) : apartL (l ++ [x]) = !(!decide (x = 0) && decide (x ∈ l)) := by
  rw [apart_snoc h, count_snoc, if_pos rfl]
  have : decide (1 < l.count x + 1) = decide (x ∈ l) := decide_eq_decide.2 (by rw [← List.count_pos_iff]; omega)
  rw [this]
theorem refMay_false {t : Tre} (h : (decide (t.length = 12) && decide (kindT t 0 = 2) && (List.range 12).all (nodK t) && apartL (allS t)) = false ∨ (List.range 12).all (hang2 t) = false) : refMay t = false := by
  unfold refMay
  rcases h with h | h
  · rw [h]; rfl
  · rw [h, Bool.and_false]
theorem refMay_bad {t : Tre} {i : Nat} (hi : i < 12) (h : nodK t i = false) : refMay t = false := refMay_false (.inl (by rw [all_stop hi h]; simp))
theorem refMay_twice {t : Tre} (h : apartL (allS t) = false) : refMay t = false := refMay_false (.inl (by rw [h]; simp))
theorem mayTree_ok {s : Sl} {t : Tre} {V : View} (h : SlR V s t) : CallV Tryd.prog 11 ⟨[treV s]⟩ V fun r V' => r = .bool (mayT t) ∧ V.Le V' := by
  rw [← refMay_eq]
  refine f11_x ?_
  unfold f11_n
  have hn := h.n
  refine fun _ => joinP_cut (fun q V' => q.1 = (!(decide (t.length = 12) && decide (kindT t 0 = 2))) ∧ V' = V) (br_intro (fun hb => ⟨?_, rfl⟩) (fun hb => ?_)) ?_
  · have hb : ¬ t.length = 12 := by have := of_decide_eq_false (not_t hb); omega
    rw [decide_eq_false hb]; rfl
  · have hb : t.length = 12 := by have := of_decide_eq_true (not_f hb); omega
    obtain ⟨ad, sq, en, ha, hc, hN⟩ := h.nodN (i := 0) (by omega)
    refine ⟨by omega, by omega, ad, ha, _, cellsAt_nth hc 0 rfl, ?_, rfl⟩
    rw [decide_eq_true hb]; rfl
  rintro ⟨q, ⟨⟩⟩ V1 ⟨h1, hV⟩
  simp only at h1 hV
  subst h1 hV
  dsimp only [unc]
  refine br_intro (fun hb => ⟨?_, View.Le.refl _⟩) (fun hb r hr => ?_)
  · have hb := not_t hb
    rw [refMay_false (.inl (by rw [hb]; rfl))]
  have hb := not_f hb
  simp only [Bool.and_eq_true, decide_eq_true_eq] at hb
  obtain ⟨h12, hk0⟩ := hb
  have hfr := View.see_none_of_ge hr
  refine loop1 (k := .int .i64) (fun (x : Int) V' => ∃ i : Nat, x = i ∧ i ≤ 12 ∧ (List.range i).all (nodK t) = true ∧ apartL (allS (t.take i)) = true ∧ SeenM V' r (allS (t.take i)) ∧ V1.Le (V'.hide r)) (fun (x : Int) _ => 12 - x.toNat) ⟨0, rfl, by omega, rfl, rfl, ⟨_, _, View.see_put_same _ _ _, fun e he => (by cases he), fun k => rfl⟩, put_le_hide hfr (View.Le.refl _)⟩ ?_
  rintro (x : Int) V2 ⟨i, rfl, hi, hall, hap, hS2, hV2⟩
  have hV2' : V1.Le V2 := hV2.trans (View.hide_le _ _)
  refine br_intro (fun hlt => ?_) (fun hge => ?_)
  · have hlt : i < 12 := by have := of_decide_eq_true hlt; omega
    obtain ⟨ad, sq, en, ha, hc, hN⟩ := h.nodN (i := i) (by omega)
    refine ⟨by omega, by omega, ad, ha, _, _, _, sq, en, cellsAt_mono hV2' hc, fun _ => (refN_ok (hN.mono hV2')).mono ?_⟩
    rintro r1 V3 ⟨rfl, rfl⟩
    refine ⟨_, rfl, br_intro (fun hb => ⟨?_, hV2'⟩) (fun hb => ?_)⟩
    · rw [refMay_bad hlt (by unfold nodK; rw [not_t hb]; rfl)]
    have hm := not_f hb
    have hen := hN.ents.n
    have hsn := hN.seqs.n
    have hs5 := mayN_seqs hm
    have he10 := mayL_len (mayN_ents hm)
    refine loop1 (k := .int .i64) (fun (x : Int) V' => V' = V3 ∧ ∃ k : Nat, x = k ∧ k ≤ (entsT t i).length ∧ ((entsT t i).take k).all (fun e => !decide (kindT t e.node.toNat = 0)) = true) (fun (x : Int) _ => (entsT t i).length - x.toNat) ⟨rfl, 0, rfl, by omega, rfl⟩ ?_
    rintro (x : Int) V4 ⟨rfl, k, rfl, hk, hek⟩
    have hlene : (entsT t i).length = (t.getD i default).ents.length := rfl
    refine br_intro (fun hltk => ?_) (fun hge => ?_)
    · have hltk : k < (t.getD i default).ents.length := by have := of_decide_eq_true hltk; omega
      obtain ⟨ad, ha, hc, _, _⟩ := (hN.ents.mono hV2').entN hltk
      have hxm : (t.getD i default).ents.getD k default ∈ (t.getD i default).ents := by rw [getD_at hltk]; exact List.getElem_mem _
      have hq := mayL_node (mayN_ents hm) hxm
      obtain ⟨q, hqe⟩ : ∃ q : Nat, ((t.getD i default).ents.getD k default).node = q := ⟨((t.getD i default).ents.getD k default).node.toNat, by omega⟩
      obtain ⟨ad4, sq4, en4, ha4, hc4, _⟩ := (h.mono hV2').nodN (i := q) (by omega)
      refine ⟨by omega, by omega, ad, ha, _, _, hc, fun _ => ⟨by omega, by omega, ad4, ha4, (t.getD q default).kind, ?_, br_intro (fun hz => ⟨?_, hV2'⟩) (fun hz => ⟨inI64 (by omega) (by omega), ⟨rfl, k + 1, by omega, by omega, ?_⟩, by omega⟩)⟩⟩
      · rw [hqe]; exact cellsAt_nth hc4 0 rfl
      · have hz := of_decide_eq_true hz
        rw [refMay_bad hlt]
        unfold nodK
        rw [Bool.and_eq_false_iff]
        right
        rw [List.all_eq_false]
        exact ⟨_, hxm, by rw [hqe, Int.toNat_natCast, decide_eq_true (show kindT t q = 0 from hz)]; simp⟩
      · have hz := of_decide_eq_false hz
        rw [List.take_add_one, List.getElem?_eq_getElem (show k < (entsT t i).length from hltk), List.all_append, hek]
        have e1 : (entsT t i)[k]'hltk = (t.getD i default).ents.getD k default := (getD_at hltk).symm
        show (true && [(entsT t i)[k]'hltk].all _) = true
        rw [e1]
        simp only [List.all_cons, List.all_nil, hqe, Int.toNat_natCast, Bool.true_and, Bool.and_true]
        rw [decide_eq_false (show ¬ kindT t q = 0 from hz)]; rfl
    · have hge : k = (entsT t i).length := by have := of_decide_eq_false hge; omega
      subst hge
      rw [List.take_length] at hek
      have hnk : nodK t i = true := by unfold nodK; rw [hm, hek]; rfl
      have hpre := allS_prefix t (i + 1)
      rw [allS_take (by omega)] at hpre
      have htake := allS_take (t := t) (i := i) (by omega)
      generalize hnd : t.getD i default = nd at *
      refine loop1 (k := .int .i64) (fun (x : Int) V' => ∃ k : Nat, x = k ∧ k ≤ nd.seqs.length ∧ SeenM V' r (allS (t.take i) ++ nd.seqs.take k) ∧ apartL (allS (t.take i) ++ nd.seqs.take k) = true ∧ V1.Le (V'.hide r)) (fun (x : Int) _ => nd.seqs.length - x.toNat) ⟨0, rfl, by omega, by simpa using hS2, by simpa using hap, hV2⟩ ?_
      rintro (x : Int) V5 ⟨k, rfl, hk, hS5, hap5, hV5⟩
      have hV5' : V1.Le V5 := hV5.trans (View.hide_le _ _)
      refine br_intro (fun hltk => ?_) (fun hge => ?_)
      · have hltk : k < nd.seqs.length := by have := of_decide_eq_true hltk; omega
        obtain ⟨ad, ha, hc, _⟩ := (hN.seqs.mono hV5').intN hltk
        have etk : nd.seqs.take (k + 1) = nd.seqs.take k ++ [nd.seqs.getD k 0] := by rw [List.take_add_one, List.getElem?_eq_getElem hltk, getD_at0 hltk]; rfl
        have hpre2 : allS (t.take i) ++ nd.seqs.take (k + 1) <+: allS t := by
          refine List.IsPrefix.trans ?_ hpre
          rw [List.prefix_append_right_inj]
          exact List.take_prefix _ _
        rw [etk, ← List.append_assoc] at hpre2
        refine ⟨by omega, by omega, ad, ha, _, hc, ?_⟩
        generalize nd.seqs.getD k 0 = x at *
        obtain ⟨es, cl, f, hse, hmf, hfd, hput⟩ := hS5.put x
        refine joinP_cut (fun q V' => q.1 = (!apartL (allS (t.take i) ++ nd.seqs.take k ++ [x])) ∧ V' = V5) (br_intro (fun hx0 => ⟨trivial, es, cl, f, hse, hmf, _, hfd, ?_, rfl⟩) (fun hx0 => ⟨?_, rfl⟩)) ?_
        · rw [apart_snoc2 hap5, hx0, Bool.true_and, Bool.not_not]
          by_cases hm : x ∈ allS (t.take i) ++ nd.seqs.take k
          · rw [if_pos hm, decide_eq_true hm]; rfl
          · rw [if_neg hm, decide_eq_false hm]; rfl
        · rw [apart_snoc2 hap5, hx0]; rfl
        · rintro ⟨q, ⟨⟩⟩ V6 ⟨h1, hV⟩
          simp only at h1 hV
          subst h1 hV
          dsimp only [unc]
          refine br_intro (fun hb => ⟨?_, hV5'⟩) (fun hb => ⟨trivial, r, es, cl, f, rfl, hse, hmf, inI64 (by omega) (by omega), ⟨k + 1, by omega, by omega, ?_, ?_, hV5.trans (hide_le_put_hide r _)⟩, by omega⟩)
          · rw [refMay_twice (apart_prefix hpre2 (not_t hb))]
          · rw [etk, ← List.append_assoc]; exact hput
          · rw [etk, ← List.append_assoc]; exact not_f hb
      · have hge : k = nd.seqs.length := by have := of_decide_eq_false hge; omega
        subst hge
        rw [List.take_length] at hS5 hap5
        exact ⟨inI64 (by omega) (by omega), ⟨i + 1, by omega, by omega, all_step hall hnk, by rw [htake]; exact hap5, by rw [htake]; exact hS5, hV5⟩, by omega⟩
  · have hge : i = 12 := by have := of_decide_eq_false hge; omega
    subst hge
    rw [List.take_of_length_le (by omega)] at hap
    have hnod : ∀ i, i < 12 → nodK t i = true := fun i hi => List.all_eq_true.1 hall i (List.mem_range.2 hi)
    have hallN : ∀ n ∈ t, mayN n = true := fun n hn => by
      obtain ⟨j, hj, rfl⟩ := List.getElem_of_mem hn
      have := hnod j (by omega)
      unfold nodK at this
      rw [getD_at hj] at this
      simp only [Bool.and_eq_true] at this
      exact this.1
    have hR : refMay t = (List.range 12).all (hang2 t) := by
      unfold refMay
      rw [decide_eq_true h12, decide_eq_true hk0, hall, hap]; rfl
    rw [hR]
    have hE : ∀ n ∈ t, n.ents.length ≤ 10 := fun n hn => mayL_len (mayN_ents (hallN n hn))
    refine (reached_ok (h.mono hV2') h12 hallN hk0).mono ?_
    rintro r1 V3 ⟨y, rfl, hy, hV3⟩
    have hV13 := hV2'.trans hV3
    refine ⟨y, rfl, ?_⟩
    refine loop1 (k := .int .i64) (fun (x : Int) V' => V' = V3 ∧ ∃ i : Nat, x = i ∧ i ≤ 12 ∧ (List.range i).all (hang2 t) = true) (fun (x : Int) _ => 12 - x.toNat) ⟨rfl, 0, rfl, by omega, rfl⟩ ?_
    rintro (x : Int) V4 ⟨rfl, i, rfl, hi, hP⟩
    refine br_intro (fun hlt => ?_) (fun hge => ?_)
    · have hlt : i < 12 := by have := of_decide_eq_true hlt; omega
      obtain ⟨ad, sq, en, ha, hc, hN⟩ := (h.mono hV13).nodN (i := i) (by omega)
      refine ⟨by omega, by omega, ad, ha, _, _, _, sq, en, hc, fun _ => (named_ok (h.mono hV13) h12 hE).mono ?_⟩
      rintro r1 V5 ⟨rfl, rfl⟩
      refine ⟨_, rfl, ?_⟩
      have hyn := hy.n
      simp only [List.length_map, List.length_range] at hyn
      refine joinP_cut (fun q V' => q.1 = (!hang2 t i) ∧ V' = V5) (br_intro (fun h2 => ?_) (fun h2 => ⟨?_, rfl⟩)) ?_
      · have h2 : kindT t i = 2 := of_decide_eq_true h2
        obtain ⟨ad3, hx', ha3, hc3⟩ := hy.bool (x := (i : Int)) (by omega) (by omega)
        have e3 : ((List.range 12).map fun j => metB t 0 j && decide (kindT t j = 2))[((i : Int)).toNat] = onT t i := by simp [onT]
        rw [e3] at hc3
        refine ⟨by omega, by omega, ad3, ha3, _, hc3, ?_, rfl⟩
        unfold hang2
        rw [if_pos h2]
        have h2' : (t.getD i default).kind = 2 := h2
        rw [decide_eq_false (show ¬ (t.getD i default).kind = 1 by omega)]
        have d1 : decide ((0 : Int) < (i : Int)) = !decide (i = 0) := dec_not (by omega)
        rw [d1]
        cases onT t i <;> cases decide (i = 0) <;> cases decide (((namedT t i : Nat) : Int) = 1) <;> rfl
      · have h2 : ¬ kindT t i = 2 := of_decide_eq_false h2
        unfold hang2
        rw [if_neg h2]
        by_cases h1 : kindT t i = 1
        · rw [if_pos h1, decide_eq_true (show (t.getD i default).kind = 1 from h1)]; rfl
        · rw [if_neg h1, decide_eq_false (show ¬ (t.getD i default).kind = 1 from h1)]; rfl
      · rintro ⟨q, ⟨⟩⟩ V6 ⟨h1, hV⟩
        simp only at h1 hV
        subst h1 hV
        dsimp only [unc]
        refine br_intro (fun hb => ⟨?_, hV13⟩) (fun hb => ⟨inI64 (by omega) (by omega), ⟨rfl, i + 1, by omega, by omega, all_step hP (not_f hb)⟩, by omega⟩)
        rw [all_stop hlt (not_t hb)]
    · have hge : i = 12 := by have := of_decide_eq_false hge; omega
      subst hge
      exact ⟨by rw [hP], hV13⟩
end Go.Proofs.YtpalkdmngckcoaaDoor

/- What is written is read as it was. No program in this text. -/
namespace Go.Proofs.YtpalkdmngckcoaaDoor
open Go
theorem rdN_enc {n : Int} {most : Nat} {r : List UInt8} (h0 : 0 ≤ n) (h1 : n ≤ most) (hm : most ≤ 1099511627776) : rdN (some (numI n ++ r)) most = (n, some r) := by
  have hc : clampN n = n.toNat := by unfold clampN; omega
  unfold rdN numI
  simp only [hc]
  rw [numP_numL (n := n.toNat) (most := most) (by omega) (by omega) r]
  simp only
  rw [Int.toNat_of_nonneg h0]
theorem rdT_enc {b : List UInt8} {most : Nat} {r : List UInt8} (h1 : b.length ≤ most) (hm : most ≤ 1099511627776) : rdT (some (textL b ++ r)) most = (b, some r) := by
  have hp : textP most (textL b ++ r) = some (b, r) := by
    unfold textP textL numI
    rw [clampN_nat (by omega), List.append_assoc, numP_numL (by omega) h1]
    simp only
    rw [if_neg (by simp), List.take_left' rfl, List.drop_left' rfl]
  simp only [rdT, hp]
theorem rdSeqs_enc : ∀ (k : Nat) (l : List Int) (r : List UInt8), l.length = k → (∀ n ∈ l, 0 ≤ n ∧ n ≤ 1099511627776) → rdSeqs k (some (numsL l ++ r)) = (l, some r)
  | 0, l, r, hl, _ => by
    have := List.eq_nil_of_length_eq_zero hl
    subst this; rfl
  | k + 1, l, r, hl, hr => by
    rcases List.eq_nil_or_concat l with h1 | ⟨l', x, h1⟩
    · rw [h1] at hl; cases hl
    · have h1 : l = l' ++ [x] := by simpa using h1
      subst h1
      have hx := hr x (by simp)
      have ih := rdSeqs_enc k l' (numI x ++ r) (by simpa using hl) fun n hn => hr n (by simp [hn])
      rw [numsL_append, numsL_one, List.append_assoc]
      unfold rdSeqs
      rw [ih]
      simp only
      rw [rdN_enc hx.1 hx.2 (by decide)]
theorem rdEnts_enc : ∀ (k : Nat) (l : List Ent) (r : List UInt8), l.length = k → (∀ e ∈ l, e.name.size ≤ 8 ∧ 0 ≤ e.node ∧ e.node ≤ 11) → rdEnts k (some (encEs l ++ r)) = (l, some r)
  | 0, l, r, hl, _ => by
    have := List.eq_nil_of_length_eq_zero hl
    subst this; rfl
  | k + 1, l, r, hl, hr => by
    rcases List.eq_nil_or_concat l with h1 | ⟨l', x, h1⟩
    · rw [h1] at hl; cases hl
    · have h1 : l = l' ++ [x] := by simpa using h1
      subst h1
      have hx := hr x (by simp)
      have ih := rdEnts_enc k l' (textL (bl x.name) ++ (numI x.node ++ r)) (by simpa using hl) fun n hn => hr n (by simp [hn])
      rw [encEs_snoc]
      unfold encE
      rw [List.append_assoc, List.append_assoc]
      unfold rdEnts
      rw [ih]
      simp only
      rw [rdT_enc (by rw [bl_len]; exact hx.1) (by decide)]
      simp only
      rw [rdN_enc hx.2.1 (by omega) (by decide), ba_bl]
theorem rdNod_enc {n : Nod} {r : List UInt8} (h : mayN n = true) : rdNod (some (encN n ++ r)) = (n, some r) := by
  obtain ⟨kind, links, size, seqs, ents⟩ := n
  have hm := h
  unfold mayN at hm
  simp only at hm
  split at hm
  · rename_i hk
    subst hk
    simp only [Bool.and_eq_true, decide_eq_true_eq, List.length_eq_zero_iff] at hm
    obtain ⟨⟨⟨rfl, rfl⟩, rfl⟩, rfl⟩ := hm
    rw [encN_0 (by decide) (by decide)]
    unfold rdNod
    rw [rdN_enc (by decide) (by decide) (by decide)]
    rfl
  · split at hm
    · rename_i hk
      subst hk
      unfold fileB within at hm
      simp only [Bool.and_eq_true, decide_eq_true_eq, List.length_eq_zero_iff, List.all_eq_true, List.mem_range] at hm
      obtain ⟨⟨⟨⟨⟨l0, l1⟩, ⟨z0, z1⟩⟩, h5⟩, rfl⟩, hs⟩ := hm
      have hs2 : ∀ n ∈ seqs, 0 ≤ n ∧ n ≤ 1099511627776 := fun n hn => by
        obtain ⟨i, hi, rfl⟩ := List.getElem_of_mem hn
        have := hs i hi
        unfold okS within at this
        rw [getD_at0 hi] at this
        simp only [Bool.and_eq_true, decide_eq_true_eq] at this
        exact this.1
      rw [encN_1 rfl]
      simp only [List.append_assoc]
      unfold rdNod
      rw [rdN_enc (n := 1) (by decide) (by decide) (by decide)]
      simp only [if_pos]
      unfold rdFile
      rw [rdN_enc l0 (by exact l1) (by decide)]
      simp only
      rw [rdN_enc z0 (by exact z1) (by decide)]
      simp only
      rw [rdSeqs_enc 5 seqs r h5 hs2]
    · split at hm
      · rename_i h1 hk
        subst hk
        simp only [Bool.and_eq_true, decide_eq_true_eq, List.length_eq_zero_iff] at hm
        obtain ⟨⟨⟨rfl, rfl⟩, rfl⟩, hl⟩ := hm
        have h10 := mayL_len hl
        have he : ∀ e ∈ ents, e.name.size ≤ 8 ∧ 0 ≤ e.node ∧ e.node ≤ 11 := fun e he => by
          have := mayL_node hl he
          have := mayB_size this.2.2
          omega
        rw [encN_2 rfl]
        simp only [List.append_assoc]
        unfold rdNod
        rw [rdN_enc (n := 2) (by decide) (by decide) (by decide)]
        simp only
        rw [if_neg (by decide), if_pos trivial]
        unfold rdDir
        rw [rdN_enc (n := ((ents.length : Nat) : Int)) (by omega) (by omega) (by decide)]
        simp only [Int.toNat_natCast]
        rw [rdEnts_enc ents.length ents r rfl he]
      · cases hm
theorem rdTre_enc : ∀ (k : Nat) (t : Tre) (r : List UInt8), t.length = k → (∀ n ∈ t, mayN n = true) → rdTre k (some (encT t ++ r)) = (t, some r)
  | 0, t, r, hl, _ => by
    have := List.eq_nil_of_length_eq_zero hl
    subst this; rfl
  | k + 1, t, r, hl, hr => by
    rcases List.eq_nil_or_concat t with h1 | ⟨t', x, h1⟩
    · rw [h1] at hl; cases hl
    · have h1 : t = t' ++ [x] := by simpa using h1
      subst h1
      have hx := hr x (by simp)
      have ih := rdTre_enc k t' (encN x ++ r) (by simpa using hl) fun n hn => hr n (by simp [hn])
      rw [encT_snoc, List.append_assoc]
      unfold rdTre
      rw [ih]
      simp only
      rw [rdNod_enc hx]
theorem mayT_facts {t : Tre} (h : mayT t = true) : t.length = 12 ∧ (∀ n ∈ t, mayN n = true) ∧ apartL (allS t) = true := by
  unfold mayT at h
  simp only [Bool.and_eq_true, decide_eq_true_eq, List.all_eq_true] at h
  exact ⟨h.1.1.1.1, h.1.1.1.2, h.2⟩
theorem rdT_full {t : Tre} (h : mayT t = true) (r : List UInt8) : rdTre 12 (some (encT t ++ r)) = (t, some r) := rdTre_enc 12 t r (mayT_facts h).1 (mayT_facts h).2.1
/-- What is written is read as it was. -/
theorem parseT_back {t : Tre} (h : mayT t = true) : parseT (encT t) = some t := by
  have := rdT_full h []
  rw [List.append_nil] at this
  unfold parseT
  rw [this, if_pos ⟨rfl, h⟩]
/-- Two trees with the same bytes are the same. -/
theorem encT_inj {t u : Tre} (ht : mayT t = true) (hu : mayT u = true) (h : encT t = encT u) : t = u := by
  have := parseT_back ht
  rw [h, parseT_back hu] at this
  exact (Option.some.inj this).symm
theorem parseT_cut {t : Tre} {m : Nat} (h : mayT t = true) (hm : m < (encT t).length) : parseT ((encT t).take m) = none := by
  cases hp : parseT ((encT t).take m) with
  | none => rfl
  | some u =>
    exfalso
    obtain ⟨hu, he⟩ := parseT_enc hp
    have h1 := rdT_full h []
    have h2 := rdT_full hu ((encT t).drop m)
    rw [he, List.take_append_drop] at h2
    rw [List.append_nil, h2] at h1
    have h3 : (encT t).drop m = [] := Option.some.inj (Prod.mk.inj h1).2
    have := List.length_drop (i := m) (l := encT t)
    rw [h3] at this
    simp at this
    omega
theorem parseT_more {t : Tre} {c : UInt8} (h : mayT t = true) : parseT (encT t ++ [c]) = none := by
  unfold parseT
  rw [rdT_full h [c], if_neg (by rintro ⟨h, _⟩; simp at h)]
theorem encN_pos (n : Nod) : 0 < (encN n).length := by
  unfold encN numI numL
  simp only [List.length_append, List.length_cons, List.length_nil]
  omega
theorem encT_pos {t : Tre} (h : mayT t = true) : 0 < (encT t).length := by
  have h12 := (mayT_facts h).1
  cases t with
  | nil => cases h12
  | cons n t =>
    have e : encT (n :: t) = encN n ++ encT t := by simp [encT]
    have := encN_pos n
    rw [e, List.length_append]; omega
end Go.Proofs.YtpalkdmngckcoaaDoor

/- RootCut: bytes that are cut short, or have one more behind, are no tree. -/
namespace Go.Proofs.YtpalkdmngckcoaaDoor
open Go
theorem wrap_u64_nn (a : Int) : 0 ≤ IntKind.u64.wrap a := by
  unfold IntKind.wrap
  simp [IntKind.signed, IntKind.bits]
  omega
theorem wrap_u64_id {a : Int} (h0 : 0 ≤ a) (h1 : a ≤ 9223372036854775807) : IntKind.u64.wrap a = a := by
  unfold IntKind.wrap
  simp [IntKind.signed, IntKind.bits]
  omega
end Go.Proofs.YtpalkdmngckcoaaDoor

/- DirFrees, DirInside. -/
namespace Go.Proofs.YtpalkdmngckcoaaDoor
open Go
theorem freeT_range {t : Tre} : freeT t = -1 ∨ (0 ≤ freeT t ∧ freeT t < t.length) := by
  unfold freeT
  split
  · rcases idxI_range (fun n : Nod => decide (n.kind = 0)) t with ⟨h, _⟩ | ⟨h1, h2, _⟩
    · exact .inl h
    · exact .inr ⟨h1, h2⟩
  · exact .inl rfl
theorem freeT_spec {t : Tre} (h : mayT t = true) : (freeT t = -1 ∧ ∀ i, i < t.length → kindT t i ≠ 0) ∨ ∃ f : Nat, freeT t = f ∧ f < t.length ∧ kindT t f = 0 ∧ ∀ i, i < f → kindT t i ≠ 0 := by
  unfold freeT
  rw [if_pos h]
  generalize hp : (fun n : Nod => decide (n.kind = 0)) = p
  have key : ∀ l : Tre, (idxI p l = -1 ∧ ∀ i, i < l.length → (l.getD i default).kind ≠ 0) ∨ ∃ f : Nat, idxI p l = f ∧ f < l.length ∧ (l.getD f default).kind = 0 ∧ ∀ i, i < f → (l.getD i default).kind ≠ 0 := by
    intro l
    induction l with
    | nil => exact .inl ⟨rfl, fun i hi => absurd hi (by simp)⟩
    | cons n l ih =>
      unfold idxI
      by_cases hn : n.kind = 0
      · right
        refine ⟨0, ?_, by simp, by simpa using hn, fun i hi => absurd hi (by omega)⟩
        rw [if_pos (by rw [← hp]; exact decide_eq_true hn)]; rfl
      · rw [if_neg (by rw [← hp]; simpa using hn)]
        rcases ih with ⟨h1, h2⟩ | ⟨f, h1, h2, h3, h4⟩
        · left
          refine ⟨by rw [h1]; rfl, fun i hi => ?_⟩
          cases i with
          | zero => simpa using hn
          | succ i => simpa using h2 i (by simpa using hi)
        · right
          refine ⟨f + 1, by rw [h1]; simp, by simpa using h2, by simpa using h3, fun i hi => ?_⟩
          cases i with
          | zero => simpa using hn
          | succ i => simpa using h4 i (by omega)
  exact key t
/-- What a law asks first: is the tree light, may it be? -/
theorem guard_ok {s : Sl} {t : Tre} {V : View} (h : SlR V s t) : ∀ {P : Bool → View → Prop}, (∀ V' q, (q = false → mayT t = true ∧ LightT t) → (q = true → mayT t = false ∨ ¬ (t.length = 12 ∧ ∀ n ∈ t, mayN n = true)) → V.Le V' → P q V') →
    CallV Tryd.prog 10 ⟨[treV s]⟩ V fun r V' => ∃ x : Int, r = .int .i64 x ∧ br (decide (0 < x)) (P true V') (CallV Tryd.prog 11 ⟨[treV s]⟩ V' fun r V' => ∃ x : Bool, r = .bool x ∧ P (!x) V') := by
  intro P hP
  refine (light15s_ok h).mono ?_
  rintro r V1 ⟨x, rfl, x0, x1, x2, x3, rfl⟩
  refine ⟨x, rfl, br_intro (fun hb => hP _ _ (fun h => by cases h) (fun _ => .inr fun hm => ?_) (View.Le.refl _)) (fun hb => (mayTree_ok h).mono ?_)⟩
  · have := x3 hm
    have := of_decide_eq_true hb
    omega
  · have hb := of_decide_eq_false hb
    rintro r V2 ⟨rfl, hV2⟩
    exact ⟨_, rfl, hP _ _ (fun hq => ⟨not_f hq, x2 (by omega)⟩) (fun hq => .inl (not_t hq)) hV2⟩
theorem mayT_no {t : Tre} (h : mayT t = false ∨ ¬ (t.length = 12 ∧ ∀ n ∈ t, mayN n = true)) : mayT t = false := by
  rcases h with h | h
  · exact h
  · cases hM : mayT t
    · rfl
    · exact absurd ⟨(mayT_all hM).1, (mayT_all hM).2.1⟩ h
theorem dirFrees_ok {s : Sl} {t : Tre} {V : View} (h : SlR V s t) (hg : Glo V) : CallV Tryd.prog 3 ⟨[treV s]⟩ V fun r V' => r = .bool true ∧ V.Le V' := by
  refine f3_x ?_
  unfold f3_n
  refine fun _ => joinP_cut (fun q V' => (q.1 = false → mayT t = true) ∧ (q.1 = true → mayT t = false) ∧ V.Le V') (guard_ok h fun V' q h1 h2 hV => ⟨fun hq => (h1 hq).1, fun hq => mayT_no (h2 hq), hV⟩) ?_
  rintro ⟨q, ⟨⟩⟩ V1 ⟨h1, h2, hV1⟩
  dsimp only [unc]
  refine br_intro (fun hq => ?_) (fun hq => ?_)
  · have hM := h2 hq
    refine joinP_cut (fun g V' => g.1 = true ∧ V.Le V') ((mayTree_ok (h.mono hV1)).mono ?_) ?_
    · rintro r V2 ⟨rfl, hV2⟩
      rw [hM]
      exact ⟨_, rfl, br_intro (fun _ => awake15J (hV1.trans hV2) (hg.mono (hV1.trans hV2)) fun V' hV => ⟨rfl, hV⟩) (fun h => absurd h (by decide))⟩
    · rintro ⟨g, ⟨⟩⟩ V2 ⟨hg1, hV⟩
      simp only at hg1
      subst hg1
      exact ⟨rfl, hV⟩
  · have hM := h1 hq
    have h12 := (mayT_all hM).1
    have hn := h.n
    refine (free_ok (h.mono hV1)).mono ?_
    rintro r V2 ⟨rfl, hV2⟩
    have hV02 := hV1.trans hV2
    have hk0 := (mayT_all hM).2.2.1
    have hsp := freeT_spec hM
    refine ⟨_, rfl, br_intro (fun hb => ?_) (fun hb => ?_)⟩
    · exfalso
      have : freeT t = 0 := by
        rcases freeT_range (t := t) with h0 | ⟨h0, h9⟩
        · rw [h0, decide_eq_false (show ¬ (s.n : Int) ≤ -1 by omega)] at hb
          cases hb
        · rw [decide_eq_false (show ¬ freeT t < -1 by omega), decide_eq_false (show ¬ (s.n : Int) ≤ freeT t by omega)] at hb
          exact of_decide_eq_true hb
      rcases hsp with ⟨h9, _⟩ | ⟨f, h8, h9, h10, _⟩
      · omega
      · have : f = 0 := by omega
        subst this
        rw [hk0] at h10; cases h10
    · refine loop1 (k := .int .i64) (fun (j : Int) V' => V' = V2 ∧ ∃ i : Nat, j = i ∧ i ≤ 12) (fun (j : Int) _ => 12 - j.toNat) ⟨rfl, 0, rfl, by omega⟩ ?_
      rintro (j : Int) V3 ⟨rfl, i, rfl, hi⟩
      refine br_intro (fun hlt => ?_) (fun hge => awake15J hV02 (hg.mono hV02) fun V' hV => ⟨rfl, hV⟩)
      have hlt : i < 12 := by have := of_decide_eq_true hlt; omega
      obtain ⟨ad, sq, en, ha, hc, hN⟩ := (h.mono hV02).nodN (i := i) (by omega)
      refine ⟨by omega, by omega, ad, ha, _, _, _, sq, en, hc, fun _ => br_intro (fun hx => ?_) (fun _ => ⟨inI64 (by omega) (by omega), ⟨rfl, i + 1, by omega, by omega⟩, by omega⟩)⟩
      exfalso
      by_cases hk : kindT t i = 0
      · rw [decide_eq_true (show (t.getD i default).kind = 0 from hk)] at hx
        rcases hsp with ⟨h9, h10⟩ | ⟨f, h8, h9, h10, h11⟩
        · exact h10 i (by omega) hk
        · have hle : ¬ i < f := fun hl => h11 i hl hk
          rw [h8, decide_eq_false (show ¬ (f : Int) < 0 by omega), decide_eq_false (show ¬ (i : Int) < (f : Int) by omega)] at hx
          cases h : decide ((i : Int) = (f : Int)) <;> rw [h] at hx <;> cases hx
      · rw [decide_eq_false (show ¬ (t.getD i default).kind = 0 from hk)] at hx
        rcases hsp with ⟨h9, h10⟩ | ⟨f, h8, h9, h10, h11⟩
        · rw [h9, decide_eq_false (show ¬ (i : Int) = -1 by omega)] at hx; cases hx
        · have : ¬ (i : Int) = (f : Int) := fun e => by
            have : i = f := by omega
            subst this; exact hk h10
          rw [h8, decide_eq_false this] at hx; cases hx
end Go.Proofs.YtpalkdmngckcoaaDoor

/- How the nodes of a tree that may be hang together: plain laws. -/
namespace Go.Proofs.YtpalkdmngckcoaaDoor
open Go
theorem Reach.trans {t : Tre} {a b c : Nat} (h : Reach t a b) (k : Reach t b c) : Reach t a c := by
  induction k with
  | refl => exact h
  | step _ hx ih => exact .step ih hx
theorem allE_cons (n : Nod) (t : Tre) : allE (n :: t) = n.ents ++ allE t := by simp [allE]
theorem named_one {t : Tre} {x : Int} : ∀ {i : Nat} {e : Ent}, e ∈ (t.getD i default).ents → e.node = x → 1 ≤ namedT t x := by
  intro i e he hx
  refine List.countP_pos_iff.2 ⟨e, ?_, decide_eq_true hx⟩
  unfold allE
  refine List.mem_flatMap.2 ⟨t.getD i default, ?_, he⟩
  by_cases hi : i < t.length
  · exact getD_mem hi
  · rw [List.getD_eq_getElem?_getD, List.getElem?_eq_none (by omega)] at he
    cases he
theorem named_two {x : Int} : ∀ {t : Tre} {i p : Nat} {e e' : Ent}, i < p → e ∈ (t.getD i default).ents → e' ∈ (t.getD p default).ents → e.node = x → e'.node = x → 2 ≤ namedT t x
  | [], i, p, e, e', _, he, _, _, _ => by cases he
  | n :: t, 0, p + 1, e, e', _, he, he', hx, hx' => by
    unfold namedT
    rw [allE_cons, List.countP_append]
    have h1 : 1 ≤ n.ents.countP fun x_1 => decide (x_1.node = x) := List.countP_pos_iff.2 ⟨e, by simpa using he, decide_eq_true hx⟩
    have h2 : 1 ≤ namedT t x := named_one (i := p) (e := e') (by simpa using he') hx'
    unfold namedT at h2
    omega
  | n :: t, i + 1, p + 1, e, e', hip, he, he', hx, hx' => by
    have h := named_two (t := t) (i := i) (p := p) (by omega) (by simpa using he) (by simpa using he') hx hx'
    unfold namedT at h ⊢
    rw [allE_cons, List.countP_append]
    omega
theorem named_same {t : Tre} {x : Int} (h : namedT t x ≤ 1) {i p : Nat} {e e' : Ent} (he : e ∈ (t.getD i default).ents) (he' : e' ∈ (t.getD p default).ents) (hx : e.node = x) (hx' : e'.node = x) : i = p := by
  rcases Nat.lt_trichotomy i p with hl | hl | hl
  · have := named_two hl he he' hx hx'; omega
  · exact hl
  · have := named_two hl he' he hx' hx; omega
/-- What is known of a tree that may be. -/
structure MayF (t : Tre) : Prop where
  len : t.length = 12
  may : ∀ n ∈ t, mayN n = true
  top : kindT t 0 = 2
  dir : ∀ i, i < 12 → kindT t i = 2 → Reach t 0 i ∧ (i = 0 ∨ namedT t i = 1)
  file : ∀ i, i < 12 → kindT t i = 1 → (t.getD i default).links = (namedT t i : Nat)
  none : ∀ i, i < 12 → kindT t i = 0 → namedT t i = 0
theorem mayF {t : Tre} (h : mayT t = true) : MayF t := by
  obtain ⟨h12, hall, hk, hh, _⟩ := mayT_all h
  have hc : ∀ i, i < 12 → (cnt 12 (allE t)).getD i 0 = (namedT t i : Nat) := fun i hi => cnt_get 12 (allE t) hi
  refine ⟨h12, hall, hk, fun i hi hk2 => ?_, fun i hi hk1 => ?_, fun i hi hk0 => ?_⟩
  · have hb := hh i hi
    rw [hc i hi] at hb
    unfold hangB at hb
    rw [if_pos (show (t.getD i default).kind = 2 from hk2)] at hb
    simp only [Bool.and_eq_true, Bool.or_eq_true, decide_eq_true_eq] at hb
    exact ⟨metB_iff.1 hb.1, by omega⟩
  · have hb := hh i hi
    rw [hc i hi] at hb
    unfold hangB at hb
    rw [if_neg (show ¬ (t.getD i default).kind = 2 by unfold kindT at hk1; omega), if_pos (show (t.getD i default).kind = 1 from hk1)] at hb
    exact of_decide_eq_true hb
  · have hb := hh i hi
    rw [hc i hi] at hb
    unfold hangB at hb
    rw [if_neg (show ¬ (t.getD i default).kind = 2 by unfold kindT at hk0; omega), if_neg (show ¬ (t.getD i default).kind = 1 by unfold kindT at hk0; omega)] at hb
    have := of_decide_eq_true hb
    omega
theorem MayF.at {t : Tre} (h : MayF t) {i : Nat} (hi : i < 12) : mayN (t.getD i default) = true := h.may _ (getD_mem (by rw [h.len]; exact hi))
theorem MayF.ent {t : Tre} (h : MayF t) {i : Nat} {e : Ent} (he : e ∈ entsT t i) : i < 12 ∧ kindT t i = 2 ∧ 1 ≤ e.node ∧ e.node < 12 ∧ mayB e.name = true ∧ kindT t e.node.toNat ≠ 0 := by
  have hi : i < 12 := by
    apply Classical.byContradiction
    intro hi
    unfold entsT at he
    rw [List.getD_eq_getElem?_getD, List.getElem?_eq_none (by rw [h.len]; omega)] at he
    cases he
  have hm := h.at hi
  have hn := mayL_node (mayN_ents hm) he
  refine ⟨hi, ?_, hn.1, hn.2.1, hn.2.2, fun hk => ?_⟩
  · rcases kind_of hm with hk | hk | hk
    · exfalso
      unfold mayN at hm
      rw [if_pos hk] at hm
      simp only [Bool.and_eq_true, decide_eq_true_eq] at hm
      have : (t.getD i default).ents = [] := List.eq_nil_of_length_eq_zero hm.2
      unfold entsT at he
      rw [this] at he; cases he
    · exfalso
      unfold mayN at hm
      rw [if_neg (by omega), if_pos hk] at hm
      unfold fileB at hm
      simp only [Bool.and_eq_true, decide_eq_true_eq] at hm
      have : (t.getD i default).ents = [] := List.eq_nil_of_length_eq_zero hm.1.2
      unfold entsT at he
      rw [this] at he; cases he
    · exact hk
  · have h0 := h.none e.node.toNat (by omega) hk
    have h1 := named_one (t := t) (x := ((e.node.toNat : Nat) : Int)) (i := i) he (by omega)
    omega
theorem MayF.reach_lt {t : Tre} (h : MayF t) {a b : Nat} (ha : a < 12) (hr : Reach t a b) : b < 12 := by
  cases hr with
  | refl => exact ha
  | step _ hx => have := h.ent hx; omega
/-- The root is named by nobody. -/
theorem MayF.zero {t : Tre} (h : MayF t) {i : Nat} {e : Ent} (he : e ∈ entsT t i) : e.node.toNat ≠ 0 := by
  have := h.ent he; omega
/-- A file leads nowhere. -/
theorem reach_leaf {t : Tre} {a b : Nat} (h : entsT t a = []) (hr : Reach t a b) : b = a := by
  induction hr with
  | refl => rfl
  | step _ hx ih =>
    subst ih
    unfold entsT at h
    rw [h] at hx; cases hx
theorem reach_first {t : Tre} {a b : Nat} (hr : Reach t a b) : a = b ∨ ∃ e ∈ entsT t a, Reach t e.node.toNat b := by
  induction hr with
  | refl => exact .inl rfl
  | step h hx ih =>
    right
    rcases ih with rfl | ⟨e, he, hr⟩
    · exact ⟨_, hx, .refl⟩
    · exact ⟨e, he, .step hr hx⟩
/-- One comes back nowhere. -/
theorem MayF.nocycle {t : Tre} (h : MayF t) {a : Nat} {e0 : Ent} (he0 : e0 ∈ entsT t a) (hba : Reach t e0.node.toNat a) : False := by
  have ha := (h.ent he0).1
  let C : Nat → Prop := fun x => Reach t a x ∧ Reach t x a
  have pred : ∀ x, C x → ∃ p e, C p ∧ e ∈ entsT t p ∧ e.node.toNat = x := by
    rintro x ⟨h1, h2⟩
    by_cases hx : x = a
    · subst hx
      rcases Nat.decEq e0.node.toNat x with hne | heq
      · cases hba with
        | refl => exact absurd rfl hne
        | step hp hx => exact ⟨_, _, ⟨(Reach.step .refl he0).trans hp, .step .refl hx⟩, hx, rfl⟩
      · exact ⟨x, e0, ⟨.refl, .refl⟩, he0, heq⟩
    · cases h1 with
      | refl => exact absurd rfl hx
      | step hp he => exact ⟨_, _, ⟨hp, (Reach.step .refl he).trans h2⟩, he, rfl⟩
  have dirC : ∀ x, C x → kindT t x = 2 := by
    rintro x ⟨h1, h2⟩
    by_cases hx : x = a
    · subst hx
      exact (h.ent he0).2.1
    · rcases reach_first h2 with e | ⟨e, he, _⟩
      · exact absurd e hx
      · exact (h.ent he).2.1
  have no : ∀ x, Reach t 0 x → ¬ C x := by
    intro x hr
    induction hr with
    | refl =>
      intro hc
      obtain ⟨p, e, _, he, h0⟩ := pred _ hc
      exact h.zero he h0
    | @step i e hi he ih =>
      intro hc
      obtain ⟨p, e', hp, he', hx⟩ := pred _ hc
      have hq := h.ent he
      have hq' := h.ent he'
      have hd := (h.dir e.node.toNat (by omega) (dirC _ hc)).2
      have hn1 : namedT t ((e.node.toNat : Nat) : Int) ≤ 1 := by
        rcases hd with h0 | h1
        · exact absurd h0 (h.zero he)
        · omega
      have := named_same hn1 he he' (by omega) (by omega)
      subst this
      exact ih hp
  have hCa : C a := ⟨.refl, .refl⟩
  exact no a (h.dir a ha (dirC a hCa)).1 hCa
/-- No directory is inside what is in it. -/
theorem MayF.anti {t : Tre} (h : MayF t) {a b : Nat} (hab : Reach t a b) (hba : Reach t b a) : a = b := by
  rcases reach_first hab with e | ⟨e, he, hr⟩
  · exact e
  · exact (h.nocycle he (hr.trans hba)).elim
theorem MayF.met {t : Tre} (h : MayF t) {c : Nat} (hc : c < 12) : metB t 0 c = (decide (0 < namedT t c) || decide (c = 0)) := by
  rw [Bool.eq_iff_iff, metB_iff, Bool.or_eq_true, decide_eq_true_eq, decide_eq_true_eq]
  constructor
  · intro hr
    cases hr with
    | refl => exact .inr rfl
    | step _ hx => have := h.ent hx; exact .inl (named_one hx (by omega))
  · rintro (hn | rfl)
    · obtain ⟨e, he, hd⟩ := List.countP_pos_iff.1 hn
      obtain ⟨n, hn, hen⟩ := List.mem_flatMap.1 he
      obtain ⟨j, hj, rfl⟩ := List.getElem_of_mem hn
      have hx : e ∈ entsT t j := by unfold entsT; rw [getD_at hj]; exact hen
      have hq := h.ent hx
      have := Reach.step (h.dir j hq.1 hq.2.1).1 hx
      rwa [of_decide_eq_true hd, Int.toNat_natCast] at this
    · exact .refl
theorem insideT_iff {t : Tre} (hM : mayT t = true) {a b : Nat} (ha : a < 12) (hb : b < 12) : insideT t a b = (decide (kindT t a = 2) && metB t a b) := by
  unfold insideT
  rw [hM, decide_eq_true (show (0 : Int) ≤ a by omega), decide_eq_true (show (a : Int) < 12 by omega), decide_eq_true (show (0 : Int) ≤ b by omega), decide_eq_true (show (b : Int) < 12 by omega)]
  simp
end Go.Proofs.YtpalkdmngckcoaaDoor

/- DirInside. -/
namespace Go.Proofs.YtpalkdmngckcoaaDoor
open Go
theorem mod12 (a : Int) : ∃ n : Nat, Int.tmod (IntKind.u64.wrap a) 12 = n ∧ n < 12 := by
  have hw := wrap_u64_nn a
  have m0 := Int.tmod_nonneg (12 : Int) hw
  have m1 := Int.tmod_lt_of_pos (IntKind.u64.wrap a) (show (0 : Int) < 12 by decide)
  exact ⟨(Int.tmod (IntKind.u64.wrap a) 12).toNat, by omega, by omega⟩
theorem dirInside_ok {s : Sl} {t : Tre} {a b c : Int} {V : View} (h : SlR V s t) (hg : Glo V) : CallV Tryd.prog 4 ⟨[treV s, .int .i64 a, .int .i64 b, .int .i64 c]⟩ V fun r V' => r = .bool true ∧ V.Le V' := by
  refine f4_x ?_
  unfold f4_n
  obtain ⟨a, ha, ha12⟩ := mod12 a
  obtain ⟨b, hb, hb12⟩ := mod12 b
  obtain ⟨c, hc, hc12⟩ := mod12 c
  rw [ha, hb, hc]
  refine fun _ => joinP_cut (fun q V' => (q.1 = false → mayT t = true) ∧ V.Le V') (guard_ok h fun V' q h1 h2 hV => ⟨fun hq => (h1 hq).1, hV⟩) ?_
  rintro ⟨q, ⟨⟩⟩ V1 ⟨h1, hV1⟩
  dsimp only [unc]
  refine br_intro (fun _ => awake15J hV1 (hg.mono hV1) fun V' hV => ⟨rfl, hV⟩) (fun hq => ⟨by decide, inI64 (by omega) (by omega), by decide, inI64 (by omega) (by omega), by decide, inI64 (by omega) (by omega), ?_⟩)
  have hM := h1 hq
  have hF := mayF hM
  have h12 := hF.len
  have hn := h.n
  have ins : ∀ {V' : View} (x y : Nat), V.Le V' → x < 12 → y < 12 → CallV Tryd.prog 14 ⟨[treV s, .int .i64 x, .int .i64 y]⟩ V' fun r V'' => r = .bool (decide (kindT t x = 2) && metB t x y) ∧ V'.Le V'' := fun x y hV hx hy => by
    have := inside_ok (a := (x : Int)) (b := (y : Int)) (h.mono hV)
    rwa [insideT_iff hM hx hy] at this
  refine joinP_cut (fun q V' => q.1 = false ∧ V.Le V') ((ins a b hV1 ha12 hb12).mono ?_) ?_
  · rintro r V2 ⟨rfl, hV2⟩
    have q2 := hV1.trans hV2
    refine ⟨_, rfl, br_intro (fun hab => (ins b c q2 hb12 hc12).mono ?_) (fun _ => ⟨rfl, q2⟩)⟩
    rintro r V3 ⟨rfl, hV3⟩
    have q3 := q2.trans hV3
    refine ⟨_, rfl, br_intro (fun hbc => (ins a c q3 ha12 hc12).mono ?_) (fun _ => ⟨rfl, q3⟩)⟩
    rintro r V4 ⟨rfl, hV4⟩
    refine ⟨_, rfl, ?_, q3.trans hV4⟩
    simp only [Bool.and_eq_true, decide_eq_true_eq, metB_iff] at hab hbc
    have := metB_iff.2 (hab.2.trans hbc.2)
    simp [hab.1, this]
  rintro ⟨q, ⟨⟩⟩ V2 ⟨hq2, hV2⟩
  simp only at hq2
  subst hq2
  dsimp only [unc]
  refine br_intro (fun h => absurd h (by decide)) (fun _ => ?_)
  refine joinP_cut (fun q V' => q.1 = false ∧ V.Le V') (br_intro (fun hne => (ins a b hV2 ha12 hb12).mono ?_) (fun _ => ⟨rfl, hV2⟩)) ?_
  · rintro r V3 ⟨rfl, hV3⟩
    have q3 := hV2.trans hV3
    refine ⟨_, rfl, br_intro (fun hab => (ins b a q3 hb12 ha12).mono ?_) (fun _ => ⟨rfl, q3⟩)⟩
    rintro r V4 ⟨rfl, hV4⟩
    refine ⟨_, rfl, ?_, q3.trans hV4⟩
    show (decide (kindT t b = 2) && metB t b a) = false
    cases hba : (decide (kindT t b = 2) && metB t b a)
    · rfl
    · exfalso
      simp only [Bool.and_eq_true, decide_eq_true_eq, metB_iff] at hab hba
      have := hF.anti hab.2 hba.2
      exact (of_decide_eq_false (not_t hne)) (by omega)
  rintro ⟨q, ⟨⟩⟩ V3 ⟨hq3, hV3⟩
  simp only at hq3
  subst hq3
  dsimp only [unc]
  refine br_intro (fun h => absurd h (by decide)) (fun _ => (dirNames_ok (h.mono hV3) h12 (fun n hn => mayL_len (mayN_ents (hF.may n hn)))).mono ?_)
  rintro r V4 ⟨rfl, rfl⟩
  refine ⟨_, rfl, joinP_cut (fun q V' => q.1 = true ∧ V.Le V') ((ins 0 c hV3 (by omega) hc12).mono ?_) ?_⟩
  · rintro r V5 ⟨rfl, hV5⟩
    have q5 := hV3.trans hV5
    obtain ⟨ad, sq, en, had, hc5, hN⟩ := (h.mono q5).nodN (i := a) (by omega)
    refine ⟨_, rfl, br_intro (fun _ => ⟨by omega, by omega, ad, had, _, cellsAt_nth hc5 0 rfl, br_intro (fun _ => awake15J q5 (hg.mono q5) fun V' hV => ⟨rfl, hV⟩) (fun hk => (ins a b q5 ha12 hb12).mono ?_)⟩) (fun hf => ?_)⟩
    · rintro r V6 ⟨rfl, hV6⟩
      have hk : ¬ kindT t a = 2 := of_decide_eq_false hk
      rw [decide_eq_false hk]
      exact ⟨_, rfl, br_intro (fun _ => awake15J (q5.trans hV6) (hg.mono (q5.trans hV6)) fun V' hV => ⟨rfl, hV⟩) (fun h => by simp at h)⟩
    · exfalso
      rw [hF.met hc12, decide_eq_true hF.top] at hf
      have e1 : decide ((0 : Int) < ((namedT t (c : Int) : Nat) : Int)) = decide (0 < namedT t (c : Int)) := decide_eq_decide.2 (by omega)
      have e2 : decide ((c : Int) = 0) = decide (c = 0) := decide_eq_decide.2 (by omega)
      change ((true && (decide (0 < namedT t (c : Int)) || decide (c = 0))) == bif decide ((0 : Int) < ((namedT t (c : Int) : Nat) : Int)) then true else decide ((c : Int) = 0)) = false at hf
      rw [e1, e2] at hf
      revert hf
      generalize decide (0 < namedT t (c : Int)) = p1
      generalize decide (c = 0) = p2
      cases p1 <;> cases p2 <;> decide
  · rintro ⟨q, ⟨⟩⟩ V5 ⟨hq5, hV⟩
    simp only at hq5
    subst hq5
    exact ⟨rfl, hV⟩
end Go.Proofs.YtpalkdmngckcoaaDoor

/- Elements of rows of one's own that are set; rows that grow by an element. -/
namespace Go.Proofs.YtpalkdmngckcoaaDoor
open Go
theorem repL.set {α : Type} [Rep α] {W : View} {d : α} {ds : List Value} (hd : Rep.rep W ds d) : ∀ {cs : List Value} {l : List α} {i : Nat}, repL W cs l → i < l.length → repL W (putL cs (i * Rep.sz α) ds) (l.set i d)
  | _, [], i, _, hi => absurd hi (by simp)
  | _, x :: l, 0, ⟨vs, us, e, h1, h2⟩, _ => by
    have hv := Rep.len h1; have hdl := Rep.len hd
    refine ⟨ds, us, ?_, hd, h2⟩
    rw [Nat.zero_mul, putL_eq _ _ _ (by rw [e, List.length_append]; omega), e, List.take_zero, List.nil_append, Nat.zero_add, List.drop_append_of_le_length (by omega), List.drop_of_length_le (by omega), List.nil_append]
  | _, x :: l, i + 1, ⟨vs, us, e, h1, h2⟩, hi => by
    have hv := Rep.len h1; have hdl := Rep.len hd; have hul := h2.len
    have hi' : i < l.length := by simpa using hi
    have hle := Nat.mul_le_mul_right (Rep.sz α) (show i + 1 ≤ l.length from hi')
    rw [Nat.add_mul] at hle
    refine ⟨vs, putL us (i * Rep.sz α) ds, ?_, h1, repL.set hd h2 hi'⟩
    rw [putL_eq _ _ _ (by rw [e, List.length_append, Nat.add_mul]; omega), putL_eq _ _ _ (by omega), e, Nat.add_mul]
    rw [show i * Rep.sz α + 1 * Rep.sz α = vs.length + i * Rep.sz α by omega, List.take_append, List.drop_append]
    rw [List.take_of_length_le (show vs.length ≤ vs.length + i * Rep.sz α by omega), List.drop_of_length_le (show vs.length ≤ vs.length + i * Rep.sz α + ds.length by omega)]
    rw [show vs.length + i * Rep.sz α - vs.length = i * Rep.sz α by omega, show vs.length + i * Rep.sz α + ds.length - vs.length = i * Rep.sz α + ds.length by omega]
    simp [List.append_assoc]
theorem putL_take : ∀ (vs cs : List Value) (off m : Nat), (putL cs off vs).take m = putL (cs.take m) off vs
  | [], _, _, _ => rfl
  | v :: vs, cs, off, m => by rw [putL, putL, putL_take vs, List.take_set]
/-- Cells of a row of one's own may be set; all else is as it was. -/
theorem Buf.set {V : View} {x : Sl} {e : TypeId} {sz : Nat} {cs vs : List Value} (h : Buf V x e sz cs) {off : Nat} (hk : off + vs.length ≤ x.n * sz) (hv : 0 < vs.length) {ad : Addr} (ha : x.a = some ad) :
    canSet V (ad.add off) vs.length ∧ Buf (V.sets (ad.add off) vs) x e sz (putL cs off vs) ∧ (V.minus x).Le ((V.sets (ad.add off) vs).minus x) := by
  rcases h.own with ⟨h1, _⟩ | ⟨r, all, h1, h2, h3, h4⟩
  · rw [h1] at ha; cases ha
  · rw [h1] at ha; cases ha
    have hle := Nat.mul_le_mul_right sz h.le
    have e0 : (⟨r, 0, none⟩ : Addr).add off = ⟨r, off, none⟩ := by rw [addr0_add]; simp
    have hlen := h.len
    rw [e0, sets_see h2]
    refine ⟨canSet_of h2 (by omega), ⟨?_, h.le, h.lim, .inr ⟨r, _, h1, View.see_put_same _ _ _, ?_, ?_⟩⟩, ?_⟩
    · rw [putL_eq _ _ _ (by omega)]; simp; omega
    · rw [putL_eq _ _ _ (by omega)]; simp; omega
    · rw [putL_take, h4]
    · unfold View.minus; rw [h1]; exact hide_le_put_hide r _
/-- Element i of a row of one's own, set. -/
theorem Buf.setE {α : Type} [Rep α] {V : View} {x : Sl} {e : TypeId} {cs vs : List Value} {l : List α} {d : α} (h : Buf V x e (Rep.sz α) cs) (hr : repL (V.minus x) cs l) (hd : Rep.rep (V.minus x) vs d) {i : Nat} (hi : i < l.length) :
    ∃ ad, x.a = some ad ∧ canSet V (ad.add (i * Rep.sz α)) vs.length ∧ Buf (V.sets (ad.add (i * Rep.sz α)) vs) x e (Rep.sz α) (putL cs (i * Rep.sz α) vs) ∧ repL ((V.sets (ad.add (i * Rep.sz α)) vs).minus x) (putL cs (i * Rep.sz α) vs) (l.set i d) ∧ (V.minus x).Le ((V.sets (ad.add (i * Rep.sz α)) vs).minus x) := by
  have hn : x.n = l.length := Nat.eq_of_mul_eq_mul_right (Rep.pos (α := α)) (h.len.symm.trans hr.len)
  have hv := Rep.len hd
  have hle := Nat.mul_le_mul_right (Rep.sz α) (show i + 1 ≤ x.n by omega)
  rw [Nat.add_mul] at hle
  have hp := Rep.pos (α := α)
  rcases h.own with ⟨h1, h2⟩ | ⟨r, all, h1, _⟩
  · have := h.le; omega
  · obtain ⟨a, b, c⟩ := h.set (off := i * Rep.sz α) (vs := vs) (by omega) (by omega) h1
    exact ⟨_, h1, a, b, (hr.mono c).set (Rep.mono c hd) hi, c⟩
theorem putL_mid {cs vs : List Value} {off j : Nat} {v : Value} (h : ∀ j v, vs[j]? = some v → cs[off + j]? = some v) (hj : j < vs.length) (hl : off + vs.length ≤ cs.length) : putL cs off (vs.set j v) = putL cs (off + j) [v] := by
  rw [putL_eq _ _ _ (by simpa using hl)]
  show _ = cs.set (off + j) v
  apply List.ext_getElem?
  intro k
  rw [List.length_set]
  by_cases h1 : k < off
  · rw [List.append_assoc, List.getElem?_append_left (by simp; omega), List.getElem?_take, if_pos h1, List.getElem?_set_ne (by omega)]
  · by_cases h2 : k < off + vs.length
    · rw [List.append_assoc, List.getElem?_append_right (by simp; omega), List.getElem?_append_left (by simp; omega), List.length_take, Nat.min_eq_left (by omega)]
      by_cases h3 : k = off + j
      · subst h3
        rw [show off + j - off = j by omega, List.getElem?_set_self hj, List.getElem?_set_self (by omega)]
      · rw [List.getElem?_set_ne (by omega), List.getElem?_set_ne (by omega)]
        have h4 : k - off < vs.length := by omega
        have := h (k - off) _ (List.getElem?_eq_getElem h4)
        rw [show off + (k - off) = k by omega] at this
        rw [this, List.getElem?_eq_getElem h4]
    · rw [List.getElem?_append_right (by simp; omega), List.getElem?_drop, List.getElem?_set_ne (by omega)]
      congr 1
      simp; omega
/-- A cell of element i of a row of one's own, set. -/
theorem Buf.setC {α : Type} [Rep α] {V : View} {x : Sl} {e : TypeId} {cs : List Value} {l : List α} (h : Buf V x e (Rep.sz α) cs) (hr : repL (V.minus x) cs l) {i : Nat} (hi : i < l.length) :
    ∃ ad vs, x.a = some ad ∧ cellsAt V (ad.add (i * Rep.sz α)) vs ∧ Rep.rep (V.minus x) vs l[i] ∧ ∀ j v d, j < Rep.sz α → Rep.rep (V.minus x) (vs.set j v) d →
      canSet V ((ad.add (i * Rep.sz α)).add j) 1 ∧ Buf (V.sets ((ad.add (i * Rep.sz α)).add j) [v]) x e (Rep.sz α) (putL cs (i * Rep.sz α + j) [v]) ∧ repL ((V.sets ((ad.add (i * Rep.sz α)).add j) [v]).minus x) (putL cs (i * Rep.sz α + j) [v]) (l.set i d) ∧ (V.minus x).Le ((V.sets ((ad.add (i * Rep.sz α)).add j) [v]).minus x) := by
  have hn : x.n = l.length := Nat.eq_of_mul_eq_mul_right (Rep.pos (α := α)) (h.len.symm.trans hr.len)
  obtain ⟨vs, hv, hg⟩ := hr.get i hi
  have hvl := Rep.len hv
  have hle := Nat.mul_le_mul_right (Rep.sz α) (show i + 1 ≤ x.n by omega)
  rw [Nat.add_mul] at hle
  have hcl := h.len
  rcases h.own with ⟨h1, h2⟩ | ⟨r, all, h1, h2, h3, h4⟩
  · have := h.le; omega
  · refine ⟨_, vs, h1, ?_, hv, fun j v d hj hd => ?_⟩
    · rw [addr0_add]
      refine cellsAt_of_see h2 fun j v hj => ?_
      have := hg j v hj
      rw [← h4, List.getElem?_take] at this
      split at this
      · simpa using this
      · cases this
    · rw [Addr.add_add]
      obtain ⟨a, b, c⟩ := h.set (off := i * Rep.sz α + j) (vs := [v]) (by simp; omega) (by simp) h1
      refine ⟨a, b, ?_, c⟩
      rw [← putL_mid hg (by omega) (by omega)]
      exact (hr.mono c).set (Rep.mono c hd) hi
/-- An element in a new block, appended to a row of one's own. -/
theorem app0 {α : Type} [Rep α] {V V0 : View} {r : Nat} {x : Sl} {e : TypeId} {bytes : Nat} {zero : List Value} {cs vs : List Value} {l : List α} {d : α} {C : Sl → View → Prop} {ob : Obj} {te : TypeId}
    (hz : zero.length = Rep.sz α) (hb : Buf V x e (Rep.sz α) cs) (hr : repL (V.minus x) cs l) (hd : Rep.rep (V.minus x) vs d) (hle : V0.Le (V.minus x)) (hnew : V.size ≤ r) (hob : ob = .cells ⟨vs⟩ te (0, 0))
    (hm : (x.n + 1) * bytes ≤ 140737488355328) (hm2 : x.n + 1 ≤ 140737488355328)
    (hC : ∀ s V' cs', Buf V' s e (Rep.sz α) cs' → repL (V'.minus s) cs' (l ++ [d]) → V0.Le (V'.minus s) → C s V') :
    apV (V.put r ob) e (Rep.sz α) bytes zero x (.slice (some ⟨r, 0, none⟩) 1 1) C := by
  subst hob
  have hfr : V.see r = none := View.see_none_of_ge hnew
  have hvl : vs.length = Rep.sz α := Rep.len hd
  refine apV_buf hz (hb.put hfr) (src := vs) (m := 1) ⟨rfl, rowAt_new (View.see_put_same _ _ _) (by rw [Nat.one_mul]; exact hvl)⟩ (by rw [Nat.one_mul]; exact hvl) (Rep.one hd) hm hm2 fun s V' hb' _ hle' => ?_
  have h1 : (V.minus x).Le (V'.minus s) := (put_minus_le hfr).trans hle'
  exact hC s V' _ hb' ((hr.mono h1).snoc (Rep.mono h1 hd)) (hle.trans h1)
/-- An element appended to a row of one's own that stands beside another one. -/
theorem app0b {α : Type} [Rep α] {V V0 : View} {x y : Sl} {e e' : TypeId} {bytes sz' : Nat} {zero : List Value} {cs vs ds : List Value} {l : List α} {d : α} {C : Sl → View → Prop} {r : Nat}
    (hz : zero.length = Rep.sz α) (hb : Buf V x e (Rep.sz α) cs) (hy : Buf (V.minus x) y e' sz' ds) (hr : repL V0 cs l) (hd : Rep.rep V0 vs d) (hle : V0.Le ((V.minus x).minus y)) (hrow : rowAt V (some ⟨r, 0, none⟩) (1 * Rep.sz α) vs)
    (hm : (l.length + 1) * bytes ≤ 140737488355328) (hm2 : l.length + 1 ≤ 140737488355328)
    (hC : ∀ s V', Buf V' s e (Rep.sz α) (cs ++ vs) → Buf (V'.minus s) y e' sz' ds → repL V0 (cs ++ vs) (l ++ [d]) → V0.Le ((V'.minus s).minus y) → C s V') :
    apV V e (Rep.sz α) bytes zero x (.slice (some ⟨r, 0, none⟩) 1 1) C := by
  have hvl : vs.length = Rep.sz α := Rep.len hd
  have hn : x.n = l.length := Nat.eq_of_mul_eq_mul_right (Rep.pos (α := α)) (hb.len.symm.trans hr.len)
  refine apV_buf hz hb (src := vs) (m := 1) ⟨rfl, hrow⟩ (by rw [Nat.one_mul]; exact hvl) (Rep.one hd) (by rw [hn]; exact hm) (by rw [hn]; exact hm2) fun s V' hb' _ hle' => ?_
  exact hC s V' hb' (hy.mono hle') (hr.snoc hd) (hle.trans (minus_mono hle' y))
/-- A row of data copied behind a row of one's own. -/
theorem appRow {α : Type} [Rep α] {V V0 : View} {x y : Sl} {e : TypeId} {bytes : Nat} {zero : List Value} {cs : List Value} {l m : List α} {C : Sl → View → Prop}
    (hz : zero.length = Rep.sz α) (hb : Buf V x e (Rep.sz α) cs) (hr : repL (V.minus x) cs l) (hy : SlR (V.minus x) y m) (hle : V0.Le (V.minus x))
    (hm : (l.length + m.length) * bytes ≤ 140737488355328) (hm2 : l.length + m.length ≤ 140737488355328)
    (hC : ∀ s V' cs', Buf V' s e (Rep.sz α) cs' → repL (V'.minus s) cs' (l ++ m) → V0.Le (V'.minus s) → C s V') :
    apV V e (Rep.sz α) bytes zero x (.slice y.a y.n y.c) C := by
  obtain ⟨cy, hrow, hcy⟩ := hy.row
  have hyn := hy.n
  have hn : x.n = l.length := Nat.eq_of_mul_eq_mul_right (Rep.pos (α := α)) (hb.len.symm.trans hr.len)
  have hrow' : rowAt V y.a (y.n * Rep.sz α) cy := by
    cases ha : y.a with
    | none => rw [ha] at hrow; exact hrow
    | some a => rw [ha] at hrow; exact ⟨hrow.1, cellsAt_mono (View.minus_le _ _) hrow.2⟩
  refine apV_buf hz hb (src := cy) (m := y.n) ⟨rfl, hrow'⟩ (by rw [hcy.len, hyn]) hcy.one (by rw [hn, hyn]; exact hm) (by rw [hn, hyn]; exact hm2) fun s V' hb' _ hle' => ?_
  exact hC s V' _ hb' ((hr.mono hle').append (hcy.mono hle')) (hle.trans hle')
end Go.Proofs.YtpalkdmngckcoaaDoor

/- Contracts of copies of trees, and of trees that are cleared. -/
namespace Go.Proofs.YtpalkdmngckcoaaDoor
open Go
theorem cloneI_ok {s : Sl} {l : List Int} {V : View} (h : SlR V s l) (hl : l.length ≤ 1000) : CallV Tryd.prog 62 ⟨[.slice s.a s.n s.c]⟩ V fun r V' => ∃ x : Sl, r = .slice x.a x.n x.c ∧ SlR V' x l ∧ V.Le V' := by
  refine f62_x ?_
  unfold f62_n
  refine br_intro (fun hnil => ?_) (fun _ r hr => ?_)
  · have ha : s.a = none := Option.isNone_iff_eq_none.1 hnil
    have hl0 : l = [] := by
      cases l with
      | nil => rfl
      | cons b l => obtain ⟨ad, vs, h1, _⟩ := h.get 0 (by simp); rw [ha] at h1; cases h1
    subst hl0
    exact ⟨⟨none, 0, 0⟩, rfl, SlR.nil _ _ _, View.Le.refl V⟩
  · have hfr : V.see r = none := View.see_none_of_ge hr
    refine appRow (α := Int) (V0 := V) (l := []) (m := l) rfl (cs := []) ⟨rfl, Nat.le_refl _, Nat.zero_le _, .inr ⟨r, [], rfl, View.see_put_same _ _ _, rfl, rfl⟩⟩ rfl (h.mono ?_) ?_ (by simp; omega) (by simp; omega) ?_
    · exact put_le_hide hfr (View.Le.refl _)
    · exact put_le_hide hfr (View.Le.refl _)
    · intro z V' cs' hb hr' hle
      exact ⟨z, rfl, hb.slR hr' (View.minus_le _ _), hle.trans (View.minus_le _ _)⟩
theorem cloneE_ok {s : Sl} {l : List Ent} {V : View} (h : SlR V s l) (hl : l.length ≤ 1000) : CallV Tryd.prog 63 ⟨[.slice s.a s.n s.c]⟩ V fun r V' => ∃ x : Sl, r = .slice x.a x.n x.c ∧ SlR V' x l ∧ V.Le V' := by
  refine f63_x ?_
  unfold f63_n
  refine br_intro (fun hnil => ?_) (fun _ r hr => ?_)
  · have ha : s.a = none := Option.isNone_iff_eq_none.1 hnil
    have hl0 : l = [] := by
      cases l with
      | nil => rfl
      | cons b l => obtain ⟨ad, vs, h1, _⟩ := h.get 0 (by simp); rw [ha] at h1; cases h1
    subst hl0
    exact ⟨⟨none, 0, 0⟩, rfl, SlR.nil _ _ _, View.Le.refl V⟩
  · have hfr : V.see r = none := View.see_none_of_ge hr
    refine appRow (α := Ent) (V0 := V) (l := []) (m := l) rfl (cs := []) ⟨rfl, Nat.le_refl _, Nat.zero_le _, .inr ⟨r, [], rfl, View.see_put_same _ _ _, rfl, rfl⟩⟩ rfl (h.mono ?_) ?_ (by simp; omega) (by simp; omega) ?_
    · exact put_le_hide hfr (View.Le.refl _)
    · exact put_le_hide hfr (View.Le.refl _)
    · intro z V' cs' hb hr' hle
      exact ⟨z, rfl, hb.slR hr' (View.minus_le _ _), hle.trans (View.minus_le _ _)⟩
def LightN (n : Nod) : Prop := n.seqs.length ≤ 1000 ∧ n.ents.length ≤ 1000
theorem mayN_light {n : Nod} (h : mayN n = true) : LightN n := by
  have a := mayN_seqs h
  have b := mayL_len (mayN_ents h)
  exact ⟨by omega, by omega⟩
theorem copyN_ok {n : Nod} {s e : Sl} {V : View} (h : NodR V s e n) (hl : LightN n) : CallV Tryd.prog 41 ⟨[nodV n s e]⟩ V fun r V' => ∃ s' e' : Sl, r = nodV n s' e' ∧ NodR V' s' e' n ∧ V.Le V' := by
  refine f41_x ?_
  unfold f41_n
  refine fun _ _ => ⟨trivial, V, View.Le.refl _, (cloneI_ok h.seqs hl.1).mono ?_⟩
  rintro r V1 ⟨x, rfl, hx, hV1⟩
  refine ⟨x, rfl, hV1, (cloneE_ok (h.ents.mono hV1) hl.2).mono ?_⟩
  rintro r V2 ⟨y, rfl, hy, hV2⟩
  exact ⟨y, rfl, x, y, rfl, ⟨h.kind, h.links, h.size, hx.mono hV2, hy⟩, hV1.trans hV2⟩
theorem refCopyN_ok {n : Nod} {s e : Sl} {V : View} (h : NodR V s e n) (hl : LightN n) : CallV Tryd.prog 40 ⟨[nodV n s e]⟩ V fun r V' => ∃ s' e' : Sl, r = nodV n s' e' ∧ NodR V' s' e' n ∧ V.Le V' := by
  refine f40_x ?_
  unfold f40_n
  have l1 := hl.1
  have l2 := hl.2
  refine fun _ _ => ⟨trivial, V, View.Le.refl _, ?_⟩
  refine appRow (α := Int) (V0 := V) (l := []) (m := n.seqs) rfl (cs := []) (Buf.nil _ _ _) rfl h.seqs (View.Le.refl _) (by simp; omega) (by simp; omega) ?_
  intro x V1 cs hb hr hV1
  have hV1' := hV1.trans (View.minus_le _ _)
  refine ⟨hV1', ?_⟩
  refine appRow (α := Ent) (V0 := V1) (l := []) (m := n.ents) rfl (cs := []) (Buf.nil _ _ _) rfl (h.ents.mono hV1') (View.Le.refl _) (by simp; omega) (by simp; omega) ?_
  intro y V2 cs2 hb2 hr2 hV2
  have hV2' := hV2.trans (View.minus_le _ _)
  exact ⟨x, y, rfl, ⟨h.kind, h.links, h.size, (hb.slR hr (View.minus_le _ _)).mono hV2', hb2.slR hr2 (View.minus_le _ _)⟩, hV1'.trans hV2'⟩
/-- A tree of one's own: the row of its nodes is one's own. -/
def OwnT (V0 V : View) (x : Sl) (t : Tre) : Prop := ∃ cs, Buf V x 31 5 cs ∧ repL (V.minus x) cs t ∧ V0.Le (V.minus x)
theorem OwnT.slR {V0 V : View} {x : Sl} {t : Tre} (h : OwnT V0 V x t) : SlR V x t := by
  obtain ⟨cs, hb, hr, _⟩ := h
  exact hb.slR hr (View.minus_le _ _)
theorem OwnT.le {V0 V : View} {x : Sl} {t : Tre} (h : OwnT V0 V x t) : V0.Le V := by
  obtain ⟨cs, hb, hr, hle⟩ := h
  exact hle.trans (View.minus_le _ _)
theorem OwnT.mono {V0 V V' : View} {x : Sl} {t : Tre} (h : OwnT V0 V x t) (hV : V.Le V') : OwnT V0 V' x t := by
  obtain ⟨cs, hb, hr, hle⟩ := h
  have := minus_mono hV x
  exact ⟨cs, hb.mono hV, hr.mono this, hle.trans this⟩
theorem OwnT.from {U V0 V : View} {x : Sl} {t : Tre} (h : OwnT V0 V x t) (hV : U.Le V0) : OwnT U V x t := by
  obtain ⟨cs, hb, hr, hle⟩ := h
  exact ⟨cs, hb, hr, hV.trans hle⟩
/-- A node is set. -/
theorem OwnT.set {V0 V : View} {x : Sl} {t : Tre} (h : OwnT V0 V x t) {i : Nat} (hi : i < t.length) {n : Nod} {vs : List Value} (hn : ∀ cs, Buf V x 31 5 cs → Rep.rep (V.minus x) vs n) :
    ∃ ad, x.a = some ad ∧ canSet V (ad.add (i * 5)) 5 ∧ OwnT V0 (V.sets (ad.add (i * 5)) vs) x (t.set i n) := by
  obtain ⟨cs, hb, hr, hle⟩ := h
  have hd := hn cs hb
  have h5 : vs.length = 5 := Rep.len hd
  obtain ⟨ad, ha, h1, h2, h3, h4⟩ := hb.setE (α := Nod) hr hd hi
  rw [h5] at h1
  exact ⟨ad, ha, h1, _, h2, h3, hle.trans h4⟩
/-- A cell of a node is set. -/
theorem OwnT.setC {V0 V : View} {x : Sl} {t : Tre} (h : OwnT V0 V x t) {i : Nat} (hi : i < t.length) :
    ∃ ad sq en, x.a = some ad ∧ cellsAt V (ad.add (i * 5)) [.int .i64 (t.getD i default).kind, .int .i64 (t.getD i default).links, .int .i64 (t.getD i default).size, .slice sq.a sq.n sq.c, .slice en.a en.n en.c] ∧ NodR (V.minus x) sq en (t.getD i default) ∧
      (∀ k n, inI .i64 k → n = { t.getD i default with links := k } → canSet V ((ad.add (i * 5)).add 1) 1 ∧ OwnT V0 (V.sets ((ad.add (i * 5)).add 1) [.int .i64 k]) x (t.set i n)) ∧
      (∀ k n, inI .i64 k → n = { t.getD i default with size := k } → canSet V ((ad.add (i * 5)).add 2) 1 ∧ OwnT V0 (V.sets ((ad.add (i * 5)).add 2) [.int .i64 k]) x (t.set i n)) ∧
      (∀ q l n, SlR (V.minus x) q l → n = { t.getD i default with seqs := l } → canSet V ((ad.add (i * 5)).add 3) 1 ∧ OwnT V0 (V.sets ((ad.add (i * 5)).add 3) [.slice q.a q.n q.c]) x (t.set i n)) ∧
      (∀ q l n, SlR (V.minus x) q l → n = { t.getD i default with ents := l } → canSet V ((ad.add (i * 5)).add 4) 1 ∧ OwnT V0 (V.sets ((ad.add (i * 5)).add 4) [.slice q.a q.n q.c]) x (t.set i n)) := by
  obtain ⟨cs, hb, hr, hle⟩ := h
  obtain ⟨ad, vs, ha, hc, ⟨sq, en, rfl, h1, h2, h3, h4, h5⟩, hset⟩ := hb.setC (α := Nod) hr hi
  have e0 : t.getD i default = t[i] := getD_at hi
  rw [e0]
  refine ⟨ad, sq, en, ha, hc, ⟨h1, h2, h3, h4, h5⟩, fun k n hk hn => ?_, fun k n hk hn => ?_, fun q l n hq hn => ?_, fun q l n hq hn => ?_⟩
  · obtain ⟨a, b, c, d⟩ := hset 1 (.int .i64 k) n (by decide) ⟨sq, en, by rw [hn]; rfl, by rw [hn]; exact h1, by rw [hn]; exact hk, by rw [hn]; exact h3, by rw [hn]; exact h4, by rw [hn]; exact h5⟩
    exact ⟨a, _, b, c, hle.trans d⟩
  · obtain ⟨a, b, c, d⟩ := hset 2 (.int .i64 k) n (by decide) ⟨sq, en, by rw [hn]; rfl, by rw [hn]; exact h1, by rw [hn]; exact h2, by rw [hn]; exact hk, by rw [hn]; exact h4, by rw [hn]; exact h5⟩
    exact ⟨a, _, b, c, hle.trans d⟩
  · obtain ⟨a, b, c, d⟩ := hset 3 (.slice q.a q.n q.c) n (by decide) ⟨q, en, by rw [hn]; rfl, by rw [hn]; exact h1, by rw [hn]; exact h2, by rw [hn]; exact h3, by rw [hn]; exact hq, by rw [hn]; exact h5⟩
    exact ⟨a, _, b, c, hle.trans d⟩
  · obtain ⟨a, b, c, d⟩ := hset 4 (.slice q.a q.n q.c) n (by decide) ⟨sq, q, by rw [hn]; rfl, by rw [hn]; exact h1, by rw [hn]; exact h2, by rw [hn]; exact h3, by rw [hn]; exact h4, by rw [hn]; exact hq⟩
    exact ⟨a, _, b, c, hle.trans d⟩
theorem copyT_ok {s : Sl} {t : Tre} {V : View} (h : SlR V s t) (hl : t.length ≤ 1000 ∧ ∀ n ∈ t, LightN n) : CallV Tryd.prog 18 ⟨[treV s]⟩ V fun r V' => ∃ x : Sl, r = treV x ∧ OwnT V V' x t := by
  refine f18_x ?_
  unfold f18_n
  have hn := h.n
  refine fun _ _ _ => loop2 (k := .int .i64) (l := .sl) (fun (j : Int) (x : Sl) V' => ∃ i : Nat, j = i ∧ i ≤ t.length ∧ OwnT V V' x (t.take i)) (fun (j : Int) _ _ => t.length - j.toNat) ⟨0, rfl, by omega, [], Buf.nil _ _ _, rfl, View.Le.refl _⟩ ?_
  rintro (j : Int) (x : Sl) V1 ⟨i, rfl, hi, hO⟩
  have hV1 := hO.le
  refine br_intro (fun hlt => ?_) (fun hge => ?_)
  · have hlt : i < t.length := by have := of_decide_eq_true hlt; omega
    obtain ⟨cs, hb, hr, hle⟩ := hO
    obtain ⟨ad, sq, en, ha, hc, hN⟩ := (h.mono hle).nodN hlt
    have hmem : t.getD i default ∈ t := by rw [getD_at hlt]; exact List.getElem_mem _
    have hx := hb.n_eq (α := Nod) hr
    rw [List.length_take] at hx
    have hl1 := hl.1
    refine ⟨by omega, by omega, ad, ha, _, _, _, sq, en, cellsAt_mono (View.minus_le _ _) hc, fun _ => ⟨trivial, V, hV1, ((copyN_ok hN (hl.2 _ hmem)).besideB hb).mono ?_⟩⟩
    rintro r V2 ⟨U, ⟨s', e', rfl, hN', hU⟩, hU2, hb2⟩
    have hle2 := hle.trans (hU.trans hU2)
    have hV2 := hle2.trans (View.minus_le _ _)
    refine ⟨_, _, _, s', e', rfl, hV2, fun r hr1 => ⟨hV2.trans (View.put_le (View.see_none_of_ge hr1)), ?_⟩⟩
    refine app0 (α := Nod) rfl hb2 (hr.mono (hU.trans hU2)) (hN'.mono hU2).rep hle2 hr1 rfl (by show (x.n + 1) * 72 ≤ _; omega) (by show x.n + 1 ≤ _; omega) ?_
    intro z V3 cs3 hb3 hr3 hle3
    refine ⟨inI64 (by omega) (by omega), ⟨i + 1, by omega, by omega, cs3, hb3, ?_, hle3⟩, by omega⟩
    rw [List.take_add_one, List.getElem?_eq_getElem hlt]
    rw [getD_at hlt] at hr3; exact hr3
  · have hge : i = t.length := by have := of_decide_eq_false hge; omega
    subst hge
    rw [List.take_length] at hO
    exact ⟨x, rfl, hO⟩
theorem refCopyT_ok {s : Sl} {t : Tre} {V : View} (h : SlR V s t) (hl : t.length ≤ 1000 ∧ ∀ n ∈ t, LightN n) : CallV Tryd.prog 17 ⟨[treV s]⟩ V fun r V' => ∃ x : Sl, r = treV x ∧ OwnT V V' x t := by
  refine f17_x ?_
  unfold f17_n
  have hn := h.n
  refine fun _ _ _ => loop2 (k := .int .i64) (l := .sl) (fun (j : Int) (x : Sl) V' => ∃ i : Nat, j = i ∧ i ≤ t.length ∧ OwnT V V' x (t.take i)) (fun (j : Int) _ _ => t.length - j.toNat) ⟨0, rfl, by omega, [], Buf.nil _ _ _, rfl, View.Le.refl _⟩ ?_
  rintro (j : Int) (x : Sl) V1 ⟨i, rfl, hi, hO⟩
  have hV1 := hO.le
  refine br_intro (fun hlt => ?_) (fun hge => ?_)
  · have hlt : i < t.length := by have := of_decide_eq_true hlt; omega
    obtain ⟨cs, hb, hr, hle⟩ := hO
    obtain ⟨ad, sq, en, ha, hc, hN⟩ := (h.mono hle).nodN hlt
    have hmem : t.getD i default ∈ t := by rw [getD_at hlt]; exact List.getElem_mem _
    have hx := hb.n_eq (α := Nod) hr
    rw [List.length_take] at hx
    have hl1 := hl.1
    refine ⟨by omega, by omega, ad, ha, _, _, _, sq, en, cellsAt_mono (View.minus_le _ _) hc, fun _ => ⟨trivial, V, hV1, ((refCopyN_ok hN (hl.2 _ hmem)).besideB hb).mono ?_⟩⟩
    rintro r V2 ⟨U, ⟨s', e', rfl, hN', hU⟩, hU2, hb2⟩
    have hle2 := hle.trans (hU.trans hU2)
    have hV2 := hle2.trans (View.minus_le _ _)
    refine ⟨_, _, _, s', e', rfl, hV2, fun r hr1 => ⟨hV2.trans (View.put_le (View.see_none_of_ge hr1)), ?_⟩⟩
    refine app0 (α := Nod) rfl hb2 (hr.mono (hU.trans hU2)) (hN'.mono hU2).rep hle2 hr1 rfl (by show (x.n + 1) * 72 ≤ _; omega) (by show x.n + 1 ≤ _; omega) ?_
    intro z V3 cs3 hb3 hr3 hle3
    refine ⟨inI64 (by omega) (by omega), ⟨i + 1, by omega, by omega, cs3, hb3, ?_, hle3⟩, by omega⟩
    rw [List.take_add_one, List.getElem?_eq_getElem hlt]
    rw [getD_at hlt] at hr3; exact hr3
  · have hge : i = t.length := by have := of_decide_eq_false hge; omega
    subst hge
    rw [List.take_length] at hO
    exact ⟨x, rfl, hO⟩
/-! ### cleared -/
/-- A file without names is none. -/
def clearN (n : Nod) : Nod := if n.kind = 1 ∧ n.links = 0 then Nod.zero else n
def clearU (t : Tre) : Tre := t.map clearN
noncomputable def clearT (t : Tre) : Tre := if mayT t then clearU t else []
theorem mayT_light {t : Tre} (h : mayT t = true) : t.length = 12 ∧ ∀ n ∈ t, LightN n := by
  unfold mayT at h
  simp only [Bool.and_eq_true, decide_eq_true_eq, List.all_eq_true] at h
  exact ⟨h.1.1.1.1, fun n hn => mayN_light (h.1.1.1.2 n hn)⟩
theorem clear_step (t : Tre) (i : Nat) (hi : i < t.length) : clearU (t.take (i + 1)) ++ t.drop (i + 1) = (clearU (t.take i) ++ t.drop i).set i (clearN (t.getD i default)) := by
  have h1 : (clearU (t.take i)).length = i := by simp [clearU]; omega
  rw [List.set_append_right _ _ (by omega), h1, Nat.sub_self, ← List.getElem_cons_drop (h := hi), List.set_cons_zero, List.take_add_one, List.getElem?_eq_getElem hi, getD_at hi]
  have e : clearU (t.take i ++ (some t[i]).toList) = clearU (t.take i) ++ [clearN t[i]] := List.map_append
  rw [e, List.append_assoc]; rfl
theorem clear_at (t : Tre) (i : Nat) (hi : i < t.length) : (clearU (t.take i) ++ t.drop i).getD i default = t.getD i default := by
  have h1 : (clearU (t.take i)).length = i := by simp [clearU]; omega
  rw [List.getD_eq_getElem?_getD, List.getElem?_append_right (by omega), h1, Nat.sub_self, List.getElem?_drop, Nat.add_zero, ← List.getD_eq_getElem?_getD]
theorem zero_rep {W : View} : Rep.rep W [.int .i64 0, .int .i64 0, .int .i64 0, .slice none 0 0, .slice none 0 0] Nod.zero := ⟨⟨none, 0, 0⟩, ⟨none, 0, 0⟩, rfl, zero64, zero64, zero64, SlR.nil _ _ _, SlR.nil _ _ _⟩
theorem zeroI : inI .i64 0 := zero64
theorem clear_loop {V0 V : View} {x : Sl} {t : Tre} (hO : OwnT V0 V x t) (hl : t.length ≤ 1000) {Q : Value → View → Prop} (hQ : ∀ V', OwnT V0 V' x (clearU t) → Q (treV x) V') :
    ∀ F : CurF (CurP [K.int .i64] → Prop) [K.int .i64], (∀ (j : Int) V J, F j V J = br (decide (j < (x.n : Int))) (0 ≤ j ∧ j < (x.n : Int) ∧ ∃ ad, x.a = some ad ∧ ∃ x_2 x_3 x_4 : Int, ∃ x_5 x_6 : Sl, cellsAt V (ad.add (j.toNat * 5)) [.int .i64 x_2, .int .i64 x_3, .int .i64 x_4, .slice x_5.a x_5.n x_5.c, .slice x_6.a x_6.n x_6.c] ∧ ∀ _b : Nat, joinP [] (fun J => br (bif decide (x_2 = 1) then decide (x_3 = 0) else false) (0 ≤ j ∧ j < (x.n : Int) ∧ ∃ ad, x.a = some ad ∧ canSet V (ad.add (j.toNat * 5)) 5 ∧ J (V.sets (ad.add (j.toNat * 5)) [.int .i64 0, .int .i64 0, .int .i64 0, .slice none 0 0, .slice none 0 0])) (J V)) fun V => inI .i64 (j + 1) ∧ J (j + 1) V) (Q (treV x) V)) →
    loopP [K.int .i64] F (0, ()) V := by
  intro F hF
  refine loop1 (k := .int .i64) (fun (j : Int) V' => ∃ i : Nat, j = i ∧ i ≤ t.length ∧ OwnT V0 V' x (clearU (t.take i) ++ t.drop i)) (fun (j : Int) _ => t.length - j.toNat) ⟨0, rfl, by omega, by simpa [clearU] using hO⟩ ?_
  rintro (j : Int) V1 ⟨i, rfl, hi, hO1⟩
  rw [hF]
  have hlen : (clearU (t.take i) ++ t.drop i).length = t.length := by simp [clearU]; omega
  have hxn := hO1.slR.n
  refine br_intro (fun hlt => ?_) (fun hge => ?_)
  · have hlt : i < t.length := by have := of_decide_eq_true hlt; omega
    obtain ⟨ad, sq, en, ha, hc, hN⟩ := hO1.slR.nodN (i := i) (by omega)
    rw [clear_at t i hlt] at hc hN
    refine ⟨by omega, by omega, ad, ha, _, _, _, sq, en, hc, fun _ => ?_⟩
    refine joinP_cut (fun _ V' => OwnT V0 V' x (clearU (t.take (i + 1)) ++ t.drop (i + 1))) (br_intro (fun hb => ?_) (fun hb => ?_)) ?_
    · have hb : (t.getD i default).kind = 1 ∧ (t.getD i default).links = 0 := by
        cases h1 : decide ((t.getD i default).kind = 1) with
        | true => rw [h1] at hb; exact ⟨of_decide_eq_true h1, of_decide_eq_true hb⟩
        | false => rw [h1] at hb; cases hb
      obtain ⟨ad2, ha2, h1, h2⟩ := hO1.set (i := i) (n := Nod.zero) (by omega) (fun _ _ => zero_rep)
      refine ⟨by omega, by omega, ad2, ha2, h1, ?_⟩
      rw [clear_step t i hlt, show clearN (t.getD i default) = Nod.zero by unfold clearN; rw [if_pos hb]]
      exact h2
    · have hb : ¬ ((t.getD i default).kind = 1 ∧ (t.getD i default).links = 0) := by
        rintro ⟨h1, h2⟩
        rw [decide_eq_true h1, decide_eq_true h2] at hb; cases hb
      show OwnT V0 V1 x _
      rw [clear_step t i hlt, show clearN (t.getD i default) = t.getD i default by unfold clearN; rw [if_neg hb]]
      have : (clearU (t.take i) ++ t.drop i).set i (t.getD i default) = clearU (t.take i) ++ t.drop i := by
        rw [← clear_at t i hlt, getD_at (by omega)]
        exact List.set_getElem_self _
      rw [this]; exact hO1
    · rintro ⟨⟩ V2 hO2
      exact ⟨inI64 (by omega) (by omega), ⟨i + 1, by omega, by omega, hO2⟩, by omega⟩
  · have hge : i = t.length := by have := of_decide_eq_false hge; omega
    subst hge
    rw [List.take_length, List.drop_length, List.append_nil] at hO1
    exact hQ V1 hO1
theorem clearT_ok {s : Sl} {t : Tre} {V : View} (h : SlR V s t) : CallV Tryd.prog 27 ⟨[treV s]⟩ V fun r V' => ∃ x : Sl, r = treV x ∧ SlR V' x (clearT t) ∧ V.Le V' := by
  refine f27_x ?_
  unfold f27_n
  refine fun _ _ => (mayT_ok h).mono ?_
  rintro r V1 ⟨rfl, hV1⟩
  refine ⟨_, rfl, br_intro (fun hb => ⟨⟨none, 0, 0⟩, rfl, ?_, hV1⟩) (fun hb => ?_)⟩
  · unfold clearT; rw [not_t hb]; exact SlR.nil _ _ _
  have hM := not_f hb
  obtain ⟨h12, hall⟩ := mayT_light hM
  refine (copyT_ok (h.mono hV1) ⟨by omega, hall⟩).mono ?_
  rintro r V2 ⟨x, rfl, hO⟩
  refine ⟨x, rfl, fun _ => clear_loop (Q := fun r V' => ∃ x : Sl, r = treV x ∧ SlR V' x (clearT t) ∧ V.Le V') hO (by omega) (fun V' hO' => ⟨x, rfl, ?_, hV1.trans hO'.le⟩) _ (fun _ _ _ => rfl)⟩
  unfold clearT; rw [if_pos hM]; exact hO'.slR
end Go.Proofs.YtpalkdmngckcoaaDoor

/- DirCounts. -/
namespace Go.Proofs.YtpalkdmngckcoaaDoor
open Go
/-- What a node adds to the links. -/
def linkN (t : Tre) (i : Nat) : Int := if kindT t i = 1 then (t.getD i default).links else if kindT t i = 2 ∧ 0 < i then 1 else 0
def linkU (t : Tre) : Nat → Int
  | 0 => 0
  | k + 1 => linkU t k + linkN t k
def sumU (f : Nat → Nat) : Nat → Nat
  | 0 => 0
  | k + 1 => sumU f k + f k
theorem sumU_add (f g : Nat → Nat) : ∀ k, sumU (fun i => f i + g i) k = sumU f k + sumU g k
  | 0 => rfl
  | k + 1 => by simp only [sumU, sumU_add f g k]; omega
theorem sumU_one (q : Nat) : ∀ k, sumU (fun i => if q = i then 1 else 0) k = if q < k then 1 else 0
  | 0 => rfl
  | k + 1 => by
    simp only [sumU, sumU_one q k]
    split <;> split <;> split <;> omega
theorem sumU_zero : ∀ k, sumU (fun _ => 0) k = 0
  | 0 => rfl
  | k + 1 => by simp only [sumU, sumU_zero k]
/-- Each entry names one node. -/
theorem count_sum : ∀ {l : List Ent}, (∀ e ∈ l, 0 ≤ e.node ∧ e.node < 12) → sumU (fun i => l.countP fun e => decide (e.node = (i : Int))) 12 = l.length
  | [], _ => sumU_zero 12
  | e :: l, h => by
    have ih := count_sum (l := l) fun x hx => h x (by simp [hx])
    have he := h e (by simp)
    have h1 : (fun i : Nat => (e :: l).countP fun e => decide (e.node = (i : Int))) = fun i : Nat => (l.countP fun e => decide (e.node = (i : Int))) + (if e.node.toNat = i then 1 else 0) := by
      funext i
      rw [List.countP_cons]
      congr 1
      by_cases hi : e.node.toNat = i
      · rw [if_pos hi, if_pos (decide_eq_true (show e.node = (i : Int) by omega))]
      · rw [if_neg hi, if_neg]
        intro hc
        have := of_decide_eq_true hc; omega
    rw [h1, sumU_add, ih, sumU_one, if_pos (by omega)]; rfl
theorem linkN_named {t : Tre} (h : MayF t) {i : Nat} (hi : i < 12) : linkN t i = (namedT t (i : Int) : Nat) := by
  unfold linkN
  have hz : namedT t ((0 : Nat) : Int) = 0 := by
    rw [List.countP_eq_zero]
    intro e he hd
    obtain ⟨n, hn, hen⟩ := List.mem_flatMap.1 he
    obtain ⟨j, hj, rfl⟩ := List.getElem_of_mem hn
    have hx : e ∈ entsT t j := by unfold entsT; rw [getD_at hj]; exact hen
    have := h.zero hx
    have := of_decide_eq_true hd
    omega
  rcases kind_of (h.at hi) with hk | hk | hk
  · have h0 := h.none i hi hk
    rw [if_neg (show ¬ kindT t i = 1 by unfold kindT; omega), if_neg (show ¬ (kindT t i = 2 ∧ 0 < i) by unfold kindT; omega), h0]; rfl
  · rw [if_pos (show kindT t i = 1 from hk)]
    exact h.file i hi hk
  · rw [if_neg (show ¬ kindT t i = 1 by unfold kindT; omega)]
    by_cases h0 : 0 < i
    · have := (h.dir i hi hk).2
      rw [if_pos ⟨hk, h0⟩]
      omega
    · have : i = 0 := by omega
      subst this
      rw [if_neg (by omega), hz]; rfl
theorem linkU_sum {t : Tre} (h : MayF t) : ∀ k, k ≤ 12 → linkU t k = (sumU (fun i => namedT t (i : Int)) k : Nat)
  | 0, _ => rfl
  | k + 1, hk => by
    simp only [linkU, sumU, linkU_sum h k (by omega), linkN_named h (show k < 12 by omega)]
    omega
theorem linkU_all {t : Tre} (h : MayF t) : linkU t 12 = ((allE t).length : Nat) := by
  rw [linkU_sum h 12 (by omega)]
  congr 1
  refine count_sum fun e he => ?_
  obtain ⟨n, hn, hen⟩ := List.mem_flatMap.1 he
  obtain ⟨j, hj, rfl⟩ := List.getElem_of_mem hn
  have hx : e ∈ entsT t j := by unfold entsT; rw [getD_at hj]; exact hen
  have := h.ent hx
  omega
theorem linkU_le {t : Tre} (h : MayF t) : ∀ k, k ≤ 12 → 0 ≤ linkU t k ∧ linkU t k ≤ 120 * k
  | 0, _ => by simp [linkU]
  | k + 1, hk => by
    have ih := linkU_le h k (by omega)
    have hm := h.at (show k < 12 by omega)
    have : 0 ≤ linkN t k ∧ linkN t k ≤ 120 := by
      unfold linkN
      split
      · rename_i hk1
        have hk1 : (t.getD k default).kind = 1 := hk1
        unfold mayN at hm
        rw [if_neg (by omega), if_pos hk1] at hm
        unfold fileB at hm
        simp only [Bool.and_eq_true] at hm
        have := hm.1.1.1.1
        unfold within at this
        simpa using this
      · split <;> omega
    simp only [linkU]
    omega
/-! ### a name less -/
theorem ents_len_set {t : Tre} {k : Nat} {x : Int} (hk : k < t.length) {n : Nod} {e : Ent} (he : (t.getD k default).ents = n.ents ++ [e]) (hx : e.node = x) : namedT (t.set k n) x + 1 = namedT t x := by
  induction t generalizing k with
  | nil => simp at hk
  | cons m t ih =>
    unfold namedT at ih ⊢
    cases k with
    | zero =>
      have he : m.ents = n.ents ++ [e] := by simpa using he
      rw [List.set_cons_zero, allE_cons, allE_cons, he]
      simp only [List.countP_append, List.countP_cons, List.countP_nil, hx, decide_true, if_true]
      omega
    | succ k =>
      rw [List.set_cons_succ, allE_cons, allE_cons, List.countP_append, List.countP_append]
      have := ih (k := k) (by simpa using hk) (by simpa using he)
      omega
theorem less_no {t : Tre} (hM : mayT t = true) {k : Nat} (hk : k < 12) (hne : (entsT t k) ≠ []) {n : Nod} (hn : n = { t.getD k default with ents := (entsT t k).dropLast }) : mayT (t.set k n) = false := by
  have hF := mayF hM
  have h12 := hF.len
  cases hu : mayT (t.set k n) with
  | false => rfl
  | true =>
    exfalso
    have hU := mayF hu
    have hsplit : (t.getD k default).ents = n.ents ++ [(entsT t k).getLast hne] := by
      rw [hn]; exact (List.dropLast_concat_getLast hne).symm
    have hlast : (entsT t k).getLast hne ∈ entsT t k := List.getLast_mem hne
    generalize (entsT t k).getLast hne = e at *
    have hq := hF.ent hlast
    have h1 := ents_len_set (t := t) (k := k) (by omega) hsplit rfl
    have h2 : ∀ (f : Nod → Int), (∀ l, f { t.getD k default with ents := l } = f (t.getD k default)) → ∀ j, f ((t.set k n).getD j default) = f (t.getD j default) := by
      intro f hf j
      rw [List.getD_eq_getElem?_getD, List.getD_eq_getElem?_getD, List.getElem?_set]
      split
      · rename_i hj
        subst hj
        rw [if_pos (by omega), hn]
        have := hf (entsT t k).dropLast
        rw [List.getD_eq_getElem?_getD] at this
        simpa [List.getD_eq_getElem?_getD] using this
      · rfl
    have hkind := h2 Nod.kind (fun _ => rfl) e.node.toNat
    have hlinks := h2 Nod.links (fun _ => rfl) e.node.toNat
    have hcast : ((e.node.toNat : Nat) : Int) = e.node := by omega
    have hone : 1 ≤ namedT t e.node := named_one hlast rfl
    rcases kind_of (hF.at (show e.node.toNat < 12 by omega)) with hk0 | hk1 | hk2
    · exact hq.2.2.2.2.2 hk0
    · have a := hF.file e.node.toNat (by omega) hk1
      have b := hU.file e.node.toNat (by omega) (by unfold kindT; rw [hkind]; exact hk1)
      rw [hcast] at a b
      rw [hlinks] at b
      omega
    · have a := (hF.dir e.node.toNat (by omega) hk2).2
      have b := (hU.dir e.node.toNat (by omega) (by unfold kindT; rw [hkind]; exact hk2)).2
      rw [hcast] at a b
      omega
theorem mayT_light' {t : Tre} (h : mayT t = true) : t.length ≤ 1000 ∧ ∀ n ∈ t, LightN n := by
  have := mayT_light h
  exact ⟨by omega, this.2⟩
theorem dirCounts_ok {s : Sl} {t : Tre} {a : Int} {V : View} (h : SlR V s t) (hg : Glo V) : CallV Tryd.prog 8 ⟨[treV s, .int .i64 a]⟩ V fun r V' => r = .bool true ∧ V.Le V' := by
  refine f8_x ?_
  unfold f8_n
  refine fun _ => joinP_cut (fun q V' => (q.1 = false → mayT t = true) ∧ V.Le V') ((light15s_ok h).mono ?_) ?_
  · rintro r V1 ⟨x, rfl, x0, x1, x2, x3, rfl⟩
    refine ⟨x, rfl, br_intro (fun _ => ⟨fun h => (by cases h), View.Le.refl _⟩) (fun _ => (mayT_ok h).mono ?_)⟩
    rintro r V2 ⟨rfl, hV2⟩
    refine ⟨_, rfl, br_intro (fun _ => ⟨fun h => (by cases h), hV2⟩) (fun hb => (mayTree_ok (h.mono hV2)).mono ?_)⟩
    rintro r V3 ⟨rfl, hV3⟩
    exact ⟨_, rfl, fun _ => not_f hb, hV2.trans hV3⟩
  rintro ⟨q, ⟨⟩⟩ V1 ⟨hq, hV1⟩
  simp only at hq
  dsimp only [unc]
  refine br_intro (fun _ => awake15J hV1 (hg.mono hV1) fun V' hV => ⟨rfl, hV⟩) (fun hb => ?_)
  have hM := hq hb
  have hF := mayF hM
  have h12 := hF.len
  have hn := h.n
  have he10 : ∀ n ∈ t, n.ents.length ≤ 10 := fun n hn => mayL_len (mayN_ents (hF.may n hn))
  have h1 := h.mono hV1
  refine loop3 (k := .int .i64) (l := .int .i64) (n := .int .i64) (fun (x : Int) (y : Int) (j : Int) V' => ∃ i : Nat, j = i ∧ i ≤ 12 ∧ x = ((allE (t.take i)).length : Nat) ∧ y = linkU t i ∧ V' = V1) (fun _ _ (j : Int) _ => 12 - j.toNat) ⟨0, rfl, by omega, rfl, rfl, rfl⟩ ?_
  rintro (x : Int) (y : Int) (j : Int) V2 ⟨i, rfl, hi, rfl, rfl, rfl⟩
  refine br_intro (fun hlt => ?_) (fun hge => ?_)
  · have hlt : i < 12 := by have := of_decide_eq_true hlt; omega
    obtain ⟨ad, sq, en, ha, hc, hN⟩ := h1.nodN (i := i) (by omega)
    have hen := hN.ents.n
    have h10 := he10 _ (getD_mem (t := t) (i := i) (by omega))
    have hal := allE_len (t := t.take i) (m := 10) (fun n hn => he10 n (List.mem_of_mem_take hn))
    rw [List.length_take] at hal
    have hU := linkU_le hF i hi
    have hU1 := linkU_le hF (i + 1) (by omega)
    have hlk : linkU t (i + 1) = linkU t i + linkN t i := rfl
    have hstep : (allE (t.take (i + 1))).length = (allE (t.take i)).length + (t.getD i default).ents.length := by
      rw [allE_take (by omega), List.length_append]
    have e1 : (∀ y', y' = linkU t i + (if kindT t i = 1 then (t.getD i default).links else 0) → y' + (if kindT t i = 2 ∧ 0 < i then 1 else 0) = linkU t (i + 1)) := by
      intro y' hy'
      rw [hy', hlk]
      unfold linkN
      split <;> split <;> omega
    refine ⟨by omega, by omega, ad, ha, _, _, _, sq, en, hc, fun _ => ⟨inI64 (by omega) (by omega), joinP_cut (fun q V' => q.1 = linkU t i + (if kindT t i = 1 then (t.getD i default).links else 0) ∧ V' = V2) (br_intro (fun hk => ?_) (fun hk => ?_)) ?_⟩⟩
    · have hk : kindT t i = 1 := of_decide_eq_true hk
      have : linkN t i = (t.getD i default).links := by unfold linkN; rw [if_pos hk]
      refine ⟨inI64 (by omega) (by omega), ?_, rfl⟩
      rw [if_pos hk]
    · have hk : ¬ kindT t i = 1 := of_decide_eq_false hk
      refine ⟨?_, rfl⟩
      rw [if_neg hk, Int.add_zero]
    rintro ⟨y, ⟨⟩⟩ V3 ⟨hy, hV⟩
    simp only at hy hV
    subst hV
    dsimp only [unc]
    refine joinP_cut (fun q V' => q.1 = linkU t (i + 1) ∧ V' = V3) (br_intro (fun hk => ?_) (fun hk => ?_)) ?_
    · have hk : kindT t i = 2 ∧ 0 < i := by
        cases h2 : decide ((t.getD i default).kind = 2) with
        | false => rw [h2] at hk; cases hk
        | true =>
          rw [h2] at hk
          have hk : decide (0 < (i : Int)) = true := hk
          exact ⟨of_decide_eq_true h2, by have := of_decide_eq_true hk; omega⟩
      have e2 := e1 y hy
      rw [if_pos hk] at e2
      exact ⟨inI64 (by omega) (by omega), e2, rfl⟩
    · have hk : ¬ (kindT t i = 2 ∧ 0 < i) := by
        rintro ⟨h2, h0⟩
        rw [decide_eq_true (show (t.getD i default).kind = 2 from h2)] at hk
        have hk : decide (0 < (i : Int)) = false := hk
        have := of_decide_eq_false hk; omega
      have e2 := e1 y hy
      rw [if_neg hk, Int.add_zero] at e2
      exact ⟨e2, rfl⟩
    rintro ⟨y2, ⟨⟩⟩ V4 ⟨hy2, hV⟩
    simp only at hy2 hV
    subst hV hy2
    dsimp only [unc]
    refine joinP_cut (fun q V' => q.1 = false ∧ V' = V4) ⟨trivial, V4, View.Le.refl _, br_intro (fun _ => (dirNames_ok h1 h12 he10).mono ?_) (fun _ => ⟨rfl, rfl⟩)⟩ ?_
    · rintro r V5 ⟨rfl, rfl⟩
      refine ⟨_, rfl, View.Le.refl _, (named_ok h1 h12 he10).mono ?_⟩
      rintro r V6 ⟨rfl, rfl⟩
      exact ⟨_, rfl, by simp, rfl⟩
    rintro ⟨q, ⟨⟩⟩ V5 ⟨hq5, hV⟩
    simp only at hq5 hV
    subst hq5 hV
    dsimp only [unc]
    exact br_intro (fun h => absurd h (by decide)) (fun _ => ⟨inI64 (by omega) (by omega), ⟨i + 1, by omega, by omega, by rw [hstep]; omega, rfl, rfl⟩, by omega⟩)
  · have hge : i = 12 := by have := of_decide_eq_false hge; omega
    subst hge
    rw [List.take_of_length_le (by omega), ← linkU_all hF]
    refine br_intro (fun hx => absurd hx (by simp)) (fun _ => ?_)
    have hw12 : IntKind.u64.wrap ((s.n : Nat) : Int) = 12 := by rw [hn, h12]; decide
    rw [hw12]
    obtain ⟨k, hk, hk12⟩ := mod12 a
    rw [hk]
    refine ⟨by decide, inI64 (by omega) (by omega), (copyT_ok h1 (mayT_light' hM)).mono ?_⟩
    rintro r V3 ⟨x, rfl, hO⟩
    have hxn := hO.slR.n
    have hV03 := hV1.trans hO.le
    obtain ⟨ad, sq, en, hax, hcx, hNx, _, _, _, hset⟩ := hO.setC (i := k) (by omega)
    have hen := hNx.ents.n
    have h10 := he10 _ (getD_mem (t := t) (i := k) (by omega))
    refine ⟨x, rfl, fun _ => br_intro (fun hc => ?_) (fun _ => ⟨by omega, by omega, ad, hax, en, cellsAt_nth hcx 4 rfl, br_intro (fun hpos => ?_) (fun _ => awake15J hV03 (hg.mono hV03) fun V' hV => ⟨rfl, hV⟩)⟩)⟩
    · have hc := of_decide_eq_false (not_t hc)
      exact absurd (show ((x.n : Nat) : Int) = s.n by omega) hc
    · have hpos : 0 < en.n := by have := of_decide_eq_true hpos; omega
      have hec := hNx.ents.c
      have hne : entsT t k ≠ [] := by
        intro e
        have : (t.getD k default).ents = [] := e
        rw [this] at hen; simp at hen; omega
      have hcut := hNx.ents.take (j := en.n - 1) (by omega)
      have e3 : (if en.c = 0 then en.a else Option.map (fun (x : Addr) => x.add 0) en.a) = en.a := by rw [map_add_zero]; simp
      have e4 : ((en.n : Int) - 1).toNat - ((0 : Int)).toNat = en.n - 1 := by omega
      have e5 : (entsT t k).dropLast = (t.getD k default).ents.take (en.n - 1) := by rw [hen]; exact List.dropLast_eq_take
      obtain ⟨hcs, hO'⟩ := hset ⟨en.a, en.n - 1, en.c⟩ _ { t.getD k default with ents := (entsT t k).dropLast } hcut (by rw [e5])
      refine ⟨trivial, V3, View.Le.refl _, by omega, by omega, ad, hax, en, cellsAt_nth hcx 4 rfl, inI64 (by omega) (by omega), by decide, by omega, by omega, by omega, by omega, ad, hax, hcs, ?_⟩
      have hno := less_no hM hk12 hne (n := { t.getD k default with ents := (entsT t k).dropLast }) rfl
      have hV' : V.Le (V3.sets ((ad.add (k * 5)).add 4) [.slice en.a (en.n - 1) en.c]) := hV1.trans hO'.le
      refine joinP_cut (fun g V' => g.1 = true ∧ V.Le V') ?_ ?_
      · have e6 : (if en.c = ((0 : Int)).toNat then en.a else Option.map (fun (x : Addr) => x.add (((0 : Int)).toNat * 2)) en.a) = en.a := by simpa using e3
        simp only [Int.toNat_zero, Nat.zero_mul, Nat.sub_zero] at e6 ⊢
        rw [e6, show ((en.n : Int) - 1).toNat = en.n - 1 by omega]
        refine (mayT_ok hO'.slR).mono ?_
        rintro r V4 ⟨rfl, hV4⟩
        rw [hno]
        exact ⟨_, rfl, br_intro (fun _ => awake15J (hV'.trans hV4) (hg.mono (hV'.trans hV4)) fun V' hV => ⟨rfl, hV⟩) (fun h => absurd h (by decide))⟩
      · rintro ⟨g, ⟨⟩⟩ V4 ⟨hg1, hV⟩
        simp only at hg1
        subst hg1
        exact ⟨rfl, hV⟩
end Go.Proofs.YtpalkdmngckcoaaDoor

/- May operations be taken in an order: the same check over bits of a number. -/
namespace Go.Proofs.YtpalkdmngckcoaaDoor
open Go
def rdyM (ops : Array Oper) (m : Nat) : List Nat := (List.range ops.size).filter fun i => !Nat.testBit m i && ((ops[i]?).map (fun o => o.after.all fun e => !Region.binds .any e || Nat.testBit m e.on)).getD false
def freeM (ops : Array Oper) (m i : Nat) : Bool := match ops[i]? with
  | none => false
  | some oi => (List.range ops.size).all fun j => j == i || Nat.testBit m j || match ops[j]? with
      | some oj => oj.after.any (fun e => Region.binds .any e && e.on == i) || oi.apart ops oj
      | none => true
def drFromM (P : Program) (ops : Array Oper) : DT → Bool → Nat → Bool → Bool
  | .done, true, m, _ => (rdyM ops m).isEmpty
  | .done, false, _, _ => false
  | .no, top, _, _ => !top
  | .fl i t, true, m, dead => match ops[i]? with
    | some o => floats P o.op && freeM ops m i && (rdyM ops m).contains i && !(isLoad P o.op && dead) && drFromM P ops t true (m ||| 2 ^ i) dead
    | none => false
  | .fl _ _, false, _, _ => false
  | .alt i e _ t r, top, m, dead => match ops[i]? with
    | some o => !floats P o.op && e == early P ops i && (!top || rdyM ops m == i :: r.heads) && !(early P ops i && dead) && drFromM P ops t true (m ||| 2 ^ i) (dead || !early P ops i) &&
        (r.heads.isEmpty || r.depth == t.depth + 1) && drFromM P ops r false m dead
    | none => false
/-- The listed ones are the bits of m. -/
structure BitsR (ops : Array Oper) (listed : Array Bool) (m : Nat) : Prop where
  size : listed.size = ops.size
  bit : ∀ j d, j < ops.size → listed.getD j d = Nat.testBit m j
  out : ∀ j, ops.size ≤ j → Nat.testBit m j = false
theorem BitsR.get {ops : Array Oper} {listed : Array Bool} {m : Nat} (h : BitsR ops listed m) (j : Nat) : listed.getD j false = Nat.testBit m j := by
  by_cases hj : j < ops.size
  · exact h.bit j false hj
  · rw [h.out j (by omega)]
    unfold Array.getD
    rw [dif_neg (by rw [h.size]; exact hj)]
theorem BitsR.set {ops : Array Oper} {listed : Array Bool} {m : Nat} (h : BitsR ops listed m) {i : Nat} (hi : i < ops.size) : BitsR ops (listed.setIfInBounds i true) (m ||| 2 ^ i) := by
  refine ⟨by rw [Array.size_setIfInBounds]; exact h.size, fun j d hj => ?_, fun j hj => ?_⟩
  · have hb := h.bit j d hj
    rw [Nat.testBit_or, Nat.testBit_two_pow]
    rw [Array.getD_eq_getD_getElem?] at hb ⊢
    rw [Array.getElem?_setIfInBounds]
    by_cases e : i = j
    · subst e
      rw [if_pos rfl, if_pos (by rw [h.size]; exact hi)]
      simp
    · rw [if_neg e, hb, decide_eq_false e, Bool.or_false]
  · rw [Nat.testBit_or, Nat.testBit_two_pow, h.out j hj, decide_eq_false (by omega)]; rfl
theorem rdy_eq {ops : Array Oper} {listed : Array Bool} {m : Nat} (h : BitsR ops listed m) : Region.ready .any ops listed = rdyM ops m := by
  unfold Region.ready rdyM
  apply List.filter_congr
  intro i hi
  rw [h.bit i true (List.mem_range.1 hi)]
  have : ∀ (o : Oper), (o.after.all fun e => !Region.binds .any e || listed.getD e.on false) = (o.after.all fun e => !Region.binds .any e || Nat.testBit m e.on) := fun o => by
    congr 1
    funext e
    rw [h.get]
  simp only [this]
theorem free_eq {ops : Array Oper} {listed : Array Bool} {m : Nat} (h : BitsR ops listed m) (i : Nat) : Region.free .any ops listed i = freeM ops m i := by
  unfold Region.free freeM
  cases ho : ops[i]? with
  | none => rfl
  | some oi =>
    simp only
    rw [Bool.eq_iff_iff, List.all_eq_true, List.all_eq_true]
    constructor
    · intro hall j hj
      have := hall j hj
      rw [h.bit j true (List.mem_range.1 hj)] at this
      exact this
    · intro hall j hj
      have := hall j hj
      rw [h.bit j true (List.mem_range.1 hj)]
      exact this
theorem drFrom_eq {P : Program} {ops : Array Oper} : ∀ (D : DT) (top : Bool) (listed : Array Bool) (m : Nat) (dead : Bool), BitsR ops listed m → drFrom P ops D top listed dead = drFromM P ops D top m dead
  | .done, true, listed, m, dead, h => by unfold drFrom drFromM; rw [rdy_eq h]
  | .done, false, _, _, _, _ => by unfold drFrom drFromM; rfl
  | .no, _, _, _, _, _ => by unfold drFrom drFromM; rfl
  | .fl i t, true, listed, m, dead, h => by
    unfold drFrom drFromM
    rw [rdy_eq h, free_eq h]
    cases ho : ops[i]? with
    | none => rfl
    | some o =>
      have hi : i < ops.size := (Array.getElem?_eq_some_iff.1 ho).1
      simp only
      rw [drFrom_eq t true _ _ dead (h.set hi)]
  | .fl _ _, false, _, _, _, _ => by unfold drFrom drFromM; rfl
  | .alt i e g t r, top, listed, m, dead, h => by
    unfold drFrom drFromM
    rw [rdy_eq h]
    cases ho : ops[i]? with
    | none => rfl
    | some o =>
      have hi : i < ops.size := (Array.getElem?_eq_some_iff.1 ho).1
      simp only
      rw [drFrom_eq t true _ _ _ (h.set hi), drFrom_eq r false _ _ dead h]
theorem drOk_fast {P : Program} {ops : Array Oper} {sched : DT} (h : (Region.noSelect ops && drFromM P ops sched true 0 false && sched.depth == ops.size) = true) : drOk P ops sched := by
  have h0 : BitsR ops (Array.replicate ops.size false) 0 := by
    refine ⟨Array.size_replicate, fun j d hj => ?_, fun j _ => Nat.zero_testBit j⟩
    rw [Array.getD_eq_getD_getElem?, Array.getElem?_replicate, if_pos hj, Nat.zero_testBit]; rfl
  unfold drOk
  rw [drFrom_eq sched true _ _ false h0, h]
  trivial
/-- The numbers that come up, written out. -/
inductive MT where
  | nil
  | fl (m : Nat) (t : MT)
  | alt (m : Nat) (d : Bool) (t r : MT)
def drFromL (P : Program) (ops : Array Oper) : DT → MT → Bool → Nat → Bool → Bool
  | .done, _, true, m, _ => (rdyM ops m).isEmpty
  | .no, _, top, _, _ => !top
  | .fl i t, .fl m' t', true, m, dead => Nat.beq (Nat.lor m (2 ^ i)) m' && match ops[i]? with
    | some o => floats P o.op && freeM ops m i && (rdyM ops m).contains i && !(isLoad P o.op && dead) && drFromL P ops t t' true m' dead
    | none => false
  | .alt i e _ t r, .alt m' d' t' r', top, m, dead => Nat.beq (Nat.lor m (2 ^ i)) m' && ((dead || !early P ops i) == d') && match ops[i]? with
    | some o => !floats P o.op && e == early P ops i && (!top || rdyM ops m == i :: r.heads) && !(early P ops i && dead) && drFromL P ops t t' true m' d' &&
        (r.heads.isEmpty || r.depth == t.depth + 1) && drFromL P ops r r' false m dead
    | none => false
  | _, _, _, _, _ => false
theorem drL_sound {P : Program} {ops : Array Oper} : ∀ (D : DT) (M : MT) (top : Bool) (m : Nat) (dead : Bool), drFromL P ops D M top m dead = true → drFromM P ops D top m dead = true
  | .done, M, true, m, dead, h => by cases M <;> exact h
  | .done, M, false, m, dead, h => by cases M <;> cases h
  | .no, M, top, m, dead, h => by cases M <;> exact h
  | .fl i t, .nil, top, m, dead, h => by cases top <;> cases h
  | .fl i t, .alt _ _ _ _, top, m, dead, h => by cases top <;> cases h
  | .fl i t, .fl m' t', false, m, dead, h => by cases h
  | .fl i t, .fl m' t', true, m, dead, h => by
    unfold drFromL at h
    rw [Bool.and_eq_true] at h
    obtain ⟨h1, h2⟩ := h
    have h1 : m ||| 2 ^ i = m' := Nat.eq_of_beq_eq_true h1
    unfold drFromM
    cases ho : ops[i]? with
    | none => rw [ho] at h2; cases h2
    | some o =>
      rw [ho] at h2
      simp only at h2 ⊢
      rw [Bool.and_eq_true] at h2 ⊢
      rw [h1]
      exact ⟨h2.1, drL_sound t t' true m' dead h2.2⟩
  | .alt i e g t r, .nil, top, m, dead, h => by cases top <;> cases h
  | .alt i e g t r, .fl _ _, top, m, dead, h => by cases top <;> cases h
  | .alt i e g t r, .alt m' d' t' r', top, m, dead, h => by
    unfold drFromL at h
    rw [Bool.and_eq_true, Bool.and_eq_true] at h
    obtain ⟨⟨h1, hd⟩, h2⟩ := h
    have h1 : m ||| 2 ^ i = m' := Nat.eq_of_beq_eq_true h1
    have hd : (dead || !early P ops i) = d' := eq_of_beq hd
    unfold drFromM
    cases ho : ops[i]? with
    | none => rw [ho] at h2; cases h2
    | some o =>
      rw [ho] at h2
      simp only at h2 ⊢
      rw [Bool.and_eq_true, Bool.and_eq_true, Bool.and_eq_true] at h2 ⊢
      rw [h1, hd]
      exact ⟨⟨⟨h2.1.1.1, drL_sound t t' true m' d' h2.1.1.2⟩, h2.1.2⟩, drL_sound r r' false m dead h2.2⟩
theorem drOk_faster {P : Program} {ops : Array Oper} {sched : DT} (M : MT) (h1 : Region.noSelect ops = true) (h2 : drFromL P ops sched M true 0 false = true) (h3 : (sched.depth == ops.size) = true) : drOk P ops sched :=
  drOk_fast (by rw [h1, drL_sound sched M true 0 false h2, h3]; rfl)
end Go.Proofs.YtpalkdmngckcoaaDoor

/- RootBack: what is written is read as it was. -/
namespace Go.Proofs.YtpalkdmngckcoaaDoor
open Go
theorem refInts_ok {s t : Sl} {l m : List Int} {V : View} (h : SlR V s l) (k : SlR V t m) : CallV Tryd.prog 54 ⟨[.slice s.a s.n s.c, .slice t.a t.n t.c]⟩ V fun r V' => r = .bool (decide (l = m)) ∧ V' = V := by
  refine f54_x ?_
  unfold f54_n
  have hn := h.n; have hlim := h.lim; have kn := k.n
  refine br_intro (fun hne => ⟨?_, rfl⟩) (fun heq => ?_)
  · have hne : ¬ (s.n : Int) = t.n := by simpa using hne
    rw [decide_eq_false]
    intro e; subst e; omega
  have heq : (s.n : Int) = t.n := by simpa using heq
  refine loop1 (k := .int .i64) (fun (x : Int) V' => V' = V ∧ 0 ≤ x ∧ x ≤ s.n ∧ l.take x.toNat = m.take x.toNat) (fun (x : Int) _ => s.n - x.toNat) ⟨rfl, by omega, by omega, rfl⟩ ?_
  rintro (x : Int) V' ⟨rfl, h0, h1, h2⟩
  refine br_intro (fun hlt => ?_) (fun hge => ?_)
  · have hlt : x < s.n := by simpa using hlt
    obtain ⟨ad, hx, ha, hc, _⟩ := h.int h0 hlt
    obtain ⟨ad', hx', ha', hc', _⟩ := k.int h0 (by omega)
    refine ⟨trivial, V', View.Le.refl _, h0, hlt, ad, ha, _, hc, h0, by omega, ad', ha', _, hc', br_intro (fun hb => ⟨?_, rfl⟩) (fun hb => ⟨inI64 (by omega) (by omega), ⟨rfl, by omega, by omega, ?_⟩, by omega⟩)⟩
    · have hb : ¬ l[x.toNat] = m[x.toNat] := by simpa using hb
      rw [decide_eq_false]
      intro e; subst e; exact hb rfl
    · have hb : l[x.toNat] = m[x.toNat] := by simpa using hb
      rw [show (x + 1).toNat = x.toNat + 1 by omega, List.take_add_one, List.take_add_one, h2, List.getElem?_eq_getElem hx, List.getElem?_eq_getElem hx', hb]
  · have hge : ¬ x < s.n := by simpa using hge
    rw [List.take_of_length_le (by omega), List.take_of_length_le (by omega)] at h2
    exact ⟨by rw [h2]; simp, rfl⟩
theorem refEnts_ok {s t : Sl} {l m : List Ent} {V : View} (h : SlR V s l) (k : SlR V t m) : CallV Tryd.prog 55 ⟨[.slice s.a s.n s.c, .slice t.a t.n t.c]⟩ V fun r V' => r = .bool (decide (l = m)) ∧ V' = V := by
  refine f55_x ?_
  unfold f55_n
  have hn := h.n; have hlim := h.lim; have kn := k.n
  refine br_intro (fun hne => ⟨?_, rfl⟩) (fun heq => ?_)
  · have hne : ¬ (s.n : Int) = t.n := by simpa using hne
    rw [decide_eq_false]
    intro e; subst e; omega
  have heq : (s.n : Int) = t.n := by simpa using heq
  refine loop1 (k := .int .i64) (fun (x : Int) V' => V' = V ∧ 0 ≤ x ∧ x ≤ s.n ∧ l.take x.toNat = m.take x.toNat) (fun (x : Int) _ => s.n - x.toNat) ⟨rfl, by omega, by omega, rfl⟩ ?_
  rintro (x : Int) V' ⟨rfl, h0, h1, h2⟩
  refine br_intro (fun hlt => ?_) (fun hge => ?_)
  · have hlt : x < s.n := by simpa using hlt
    obtain ⟨ad, hx, ha, hc, _⟩ := h.ent h0 hlt
    obtain ⟨ad', hx', ha', hc', _⟩ := k.ent h0 (by omega)
    refine ⟨trivial, V', View.Le.refl _, h0, hlt, ad, ha, _, _, hc, h0, by omega, ad', ha', _, _, hc', trivial, ?_⟩
    rw [ent_eq]
    refine br_intro (fun hb => ⟨?_, rfl⟩) (fun hb => ⟨inI64 (by omega) (by omega), ⟨rfl, by omega, by omega, ?_⟩, by omega⟩)
    · have hb : ¬ l[x.toNat] = m[x.toNat] := by simpa using hb
      rw [decide_eq_false]
      intro e; subst e; exact hb rfl
    · have hb : l[x.toNat] = m[x.toNat] := by simpa using hb
      rw [show (x + 1).toNat = x.toNat + 1 by omega, List.take_add_one, List.take_add_one, h2, List.getElem?_eq_getElem hx, List.getElem?_eq_getElem hx', hb]
  · have hge : ¬ x < s.n := by simpa using hge
    rw [List.take_of_length_le (by omega), List.take_of_length_le (by omega)] at h2
    exact ⟨by rw [h2]; simp, rfl⟩
theorem refSameN_ok {a b : Nod} {s e s' e' : Sl} {V : View} (h : NodR V s e a) (k : NodR V s' e' b) : CallV Tryd.prog 28 ⟨[nodV a s e, nodV b s' e']⟩ V fun r V' => r = .bool (decide (a = b)) ∧ V' = V := by
  refine f28_x ?_
  unfold f28_n
  rw [nod_eq]
  refine fun _ _ => joinP_cut (fun q V' => q.1 = (decide (a.kind = b.kind) && decide (a.links = b.links) && decide (a.size = b.size) && (decide (a.seqs = b.seqs) && decide (a.ents = b.ents))) ∧ V' = V) (br_intro (fun hb => (refInts_ok h.seqs k.seqs).mono ?_) (fun hb => ⟨?_, rfl⟩)) ?_
  · have hb : (decide (a.kind = b.kind) && decide (a.links = b.links) && decide (a.size = b.size)) = true := by
      cases h1 : decide (a.kind = b.kind) <;> cases h2 : decide (a.links = b.links) <;> cases h3 : decide (a.size = b.size) <;> simp_all
    rw [hb]
    rintro r V1 ⟨rfl, rfl⟩
    refine ⟨_, rfl, br_intro (fun h1 => (refEnts_ok h.ents k.ents).mono ?_) (fun h1 => ⟨by rw [h1]; rfl, rfl⟩)⟩
    rintro r V2 ⟨rfl, rfl⟩
    exact ⟨_, rfl, by rw [h1]; rfl, rfl⟩
  · have hb : (decide (a.kind = b.kind) && decide (a.links = b.links) && decide (a.size = b.size)) = false := by
      cases h1 : decide (a.kind = b.kind) <;> cases h2 : decide (a.links = b.links) <;> cases h3 : decide (a.size = b.size) <;> simp_all
    rw [hb]; rfl
  · rintro ⟨q, ⟨⟩⟩ V1 ⟨h1, hV⟩
    simp only at h1 hV
    subst h1 hV
    exact ⟨rfl, rfl⟩
theorem refSameT_ok {s t : Sl} {l m : Tre} {V : View} (h : SlR V s l) (k : SlR V t m) : CallV Tryd.prog 19 ⟨[treV s, treV t]⟩ V fun r V' => r = .bool (decide (l = m)) ∧ V' = V := by
  refine f19_x ?_
  unfold f19_n
  have hn := h.n; have hlim := h.lim; have kn := k.n
  refine fun _ _ => br_intro (fun hne => ⟨?_, rfl⟩) (fun heq => ?_)
  · have hne : ¬ (s.n : Int) = t.n := by simpa using hne
    rw [decide_eq_false]
    intro e; subst e; omega
  have heq : (s.n : Int) = t.n := by simpa using heq
  refine loop1 (k := .int .i64) (fun (x : Int) V' => V' = V ∧ 0 ≤ x ∧ x ≤ s.n ∧ l.take x.toNat = m.take x.toNat) (fun (x : Int) _ => s.n - x.toNat) ⟨rfl, by omega, by omega, rfl⟩ ?_
  rintro (x : Int) V' ⟨rfl, h0, h1, h2⟩
  refine br_intro (fun hlt => ?_) (fun hge => ?_)
  · have hlt : x < s.n := by simpa using hlt
    obtain ⟨ad, sq, en, hx, ha, hc, hN⟩ := h.nod h0 hlt
    obtain ⟨ad', sq', en', hx', ha', hc', hN'⟩ := k.nod h0 (by omega)
    refine ⟨trivial, V', View.Le.refl _, h0, hlt, ad, ha, _, _, _, sq, en, hc, h0, by omega, ad', ha', _, _, _, sq', en', hc', (refSameN_ok hN hN').mono ?_⟩
    rintro r V1 ⟨rfl, rfl⟩
    refine ⟨_, rfl, br_intro (fun hb => ⟨?_, rfl⟩) (fun hb => ⟨inI64 (by omega) (by omega), ⟨rfl, by omega, by omega, ?_⟩, by omega⟩)⟩
    · have hb : ¬ l[x.toNat] = m[x.toNat] := of_decide_eq_false (not_t hb)
      rw [decide_eq_false]
      intro e; subst e; exact hb rfl
    · have hb : l[x.toNat] = m[x.toNat] := of_decide_eq_true (not_f hb)
      rw [show (x + 1).toNat = x.toNat + 1 by omega, List.take_add_one, List.take_add_one, h2, List.getElem?_eq_getElem hx, List.getElem?_eq_getElem hx', hb]
  · have hge : ¬ x < s.n := by simpa using hge
    rw [List.take_of_length_le (by omega), List.take_of_length_le (by omega)] at h2
    exact ⟨by rw [h2]; simp, rfl⟩
/-! ### sheets -/
theorem numL_small {n : Nat} (h : n < 128) : (numL n).length = 1 := by
  have : n / 128 = 0 := Nat.div_eq_of_lt h
  unfold numL
  rw [this]
  rfl
theorem numI_small {n : Int} (h0 : 0 ≤ n) (h : n < 128) : (numI n).length = 1 := by
  unfold numI
  exact numL_small (by unfold clampN; omega)
theorem numI_six (n : Int) : (numI n).length ≤ 6 := by
  unfold numI numL
  have := hi_len5 (clampN_le n)
  simp only [List.length_append, List.length_cons, List.length_nil]
  omega
theorem numsL_six : ∀ l : List Int, (numsL l).length ≤ 6 * l.length
  | [] => by simp [numsL]
  | n :: l => by
    have h1 := numsL_six l
    have h2 := numI_six n
    have e : numsL (n :: l) = numI n ++ numsL l := by simp [numsL]
    rw [e, List.length_append, List.length_cons]; omega
theorem encE_ten {x : Ent} (h8 : x.name.size ≤ 8) (h0 : 0 ≤ x.node) (h1 : x.node < 12) : (encE x).length ≤ 10 := by
  unfold encE textL
  have a := numI_small (n := ((bl x.name).length : Nat)) (by omega) (by rw [bl_len]; omega)
  have b := numI_small h0 (show x.node < 128 by omega)
  have c := bl_len x.name
  simp only [List.length_append]
  omega
theorem encEs_ten : ∀ {l : List Ent}, (∀ x ∈ l, x.name.size ≤ 8 ∧ 0 ≤ x.node ∧ x.node < 12) → (encEs l).length ≤ 10 * l.length
  | [], _ => by simp [encEs]
  | x :: l, h => by
    have h1 := encEs_ten (l := l) fun y hy => h y (by simp [hy])
    have hx := h x (by simp)
    have h2 := encE_ten hx.1 hx.2.1 hx.2.2
    have e : encEs (x :: l) = encE x ++ encEs l := by simp [encEs]
    rw [e, List.length_append, List.length_cons]; omega
theorem encN_short {n : Nod} (h : mayN n = true) : (encN n).length ≤ 102 := by
  have h1 := mayN_seqs h
  have h2 := mayL_len (mayN_ents h)
  have h3 := encEs_ten (l := n.ents) fun x hx => by
    have := mayL_node (mayN_ents h) hx
    have := mayB_size this.2.2
    omega
  have h4 := numsL_six n.seqs
  by_cases k1 : n.kind = 1
  · rw [encN_1 k1]
    have a : (numI 1).length = 1 := rfl
    have b := numI_six n.links
    have c := numI_six n.size
    simp only [List.length_append]; omega
  · by_cases k2 : n.kind = 2
    · rw [encN_2 k2]
      have a : (numI 2).length = 1 := rfl
      have b := numI_small (n := ((n.ents.length : Nat) : Int)) (by omega) (by omega)
      simp only [List.length_append]; omega
    · rw [encN_0 k1 k2]
      have := numI_six n.kind
      omega
theorem encT_short : ∀ {t : Tre}, (∀ n ∈ t, mayN n = true) → (encT t).length ≤ 102 * t.length
  | [], _ => by simp [encT]
  | n :: t, h => by
    have h1 := encT_short (t := t) fun y hy => h y (by simp [hy])
    have h2 := encN_short (h n (by simp))
    have e : encT (n :: t) = encN n ++ encT t := by simp [encT]
    rw [e, List.length_append, List.length_cons]; omega
theorem laidEnd {V V0 : View} {x : Sl} {l : List UInt8} {r : Nat} {C : Sl → View → Prop} (hb : Buf V x 5 1 (u8s l)) (hle : V0.Le (V.minus x)) (hr : rowAt V (some ⟨r, 0, none⟩) (1 * 1) (u8s [90])) (hl : l.length ≤ 4000)
    (hC : ∀ s V', s.n = l.length + 1 → V0.Le V' → C s V') : apV V 5 1 1 [.int .u8 0] x (.slice (some ⟨r, 0, none⟩) 1 1) C := by
  have hxn : x.n = l.length := by have := hb.len; rw [u8s_len, Nat.mul_one] at this; exact this.symm
  refine apV_buf rfl hb (src := u8s [90]) (m := 1) ⟨rfl, hr⟩ rfl (u8s_one _) (by show (x.n + 1) * 1 ≤ _; omega) (by show x.n + 1 ≤ _; omega) fun s V' _ hn hle' => ?_
  exact hC s V' (by rw [hn, hxn]) ((hle.trans hle').trans (View.minus_le _ _))
theorem row90 {V : View} {r : Nat} (h : V.see r = some (.cells ⟨putL [.int .u8 0] 0 [.int .u8 90]⟩ 5 (0, 0))) : rowAt V (some ⟨r, 0, none⟩) (1 * 1) (u8s [90]) := rowAt_new h rfl
end Go.Proofs.YtpalkdmngckcoaaDoor

/- DirCopies. -/
namespace Go.Proofs.YtpalkdmngckcoaaDoor
open Go
/-- A row that U does not see. -/
def RowS (W U : View) (s : Sl) (sz : Nat) : Prop := s.n = 0 ∨ ∃ r all e, s.a = some ⟨r, 0, none⟩ ∧ W.see r = some (.cells ⟨all⟩ e (0, 0)) ∧ s.n * sz ≤ all.length ∧ U.see r = none ∧ s.n ≤ 140737488355328
theorem RowS.lim {W U : View} {s : Sl} {sz : Nat} (h : RowS W U s sz) : s.n ≤ 140737488355328 := by
  rcases h with h | ⟨_, _, _, _, _, _, _, h⟩
  · omega
  · exact h
theorem see_none_le {U V : View} (h : U.Le V) {r : Nat} (hr : V.see r = none) : U.see r = none := by
  cases hs : U.see r with
  | none => rfl
  | some o => rw [h.see _ _ hs] at hr; cases hr
theorem RowS.mono {W W' U U' : View} {s : Sl} {sz : Nat} (hW : W.Le W') (hU : U'.Le U) (h : RowS W U s sz) : RowS W' U' s sz := by
  rcases h with h | ⟨r, all, e, h1, h2, h3, h4, h5⟩
  · exact .inl h
  · exact .inr ⟨r, all, e, h1, hW.see _ _ h2, h3, see_none_le hU h4, h5⟩
theorem minus_none {V : View} {x : Sl} {ad : Addr} (h : x.a = some ad) : (V.minus x).see ad.block = none := by
  unfold View.minus; rw [h, hide_see, if_pos rfl]
theorem Buf.rowS {V U : View} {x : Sl} {e : TypeId} {sz : Nat} {cs : List Value} (h : Buf V x e sz cs) (hle : U.Le (V.minus x)) : RowS V U x sz := by
  rcases h.own with ⟨_, hc⟩ | ⟨r, all, ha, hs, hl, _⟩
  · left; have := h.le; omega
  · right
    exact ⟨r, all, e, ha, hs, by rw [hl]; exact Nat.mul_le_mul_right _ h.le, see_none_le hle (minus_none ha), h.lim⟩
/-- A node of which only this is known: its rows are not U's. -/
structure SpN where
  u : View
instance : Rep SpN where
  sz := 5
  pos := by decide
  rep W vs x := ∃ (k l z : Int) (sq en : Sl), vs = [.int .i64 k, .int .i64 l, .int .i64 z, .slice sq.a sq.n sq.c, .slice en.a en.n en.c] ∧ RowS W x.u sq 1 ∧ RowS W x.u en 2
  len h := by obtain ⟨_, _, _, _, _, h, _⟩ := h; rw [h]; rfl
  one h := by obtain ⟨_, _, _, _, _, h, _⟩ := h; rw [h]; rfl
  mono hV h := let ⟨k, l, z, sq, en, h, a, b⟩ := h; ⟨k, l, z, sq, en, h, a.mono hV (View.Le.refl _), b.mono hV (View.Le.refl _)⟩
theorem cloneI2_ok {s : Sl} {l : List Int} {V : View} (h : SlR V s l) (hl : l.length ≤ 1000) : CallV Tryd.prog 62 ⟨[.slice s.a s.n s.c]⟩ V fun r V' => ∃ x : Sl, r = .slice x.a x.n x.c ∧ SlR V' x l ∧ RowS V' V x 1 ∧ V.Le V' := by
  refine f62_x ?_
  unfold f62_n
  refine br_intro (fun hnil => ?_) (fun _ r hr => ?_)
  · have ha : s.a = none := Option.isNone_iff_eq_none.1 hnil
    have hl0 : l = [] := by
      cases l with
      | nil => rfl
      | cons b l => obtain ⟨ad, vs, h1, _⟩ := h.get 0 (by simp); rw [ha] at h1; cases h1
    subst hl0
    exact ⟨⟨none, 0, 0⟩, rfl, SlR.nil _ _ _, .inl rfl, View.Le.refl V⟩
  · have hfr : V.see r = none := View.see_none_of_ge hr
    refine appRow (α := Int) (V0 := V) (l := []) (m := l) rfl (cs := []) ⟨rfl, Nat.le_refl _, Nat.zero_le _, .inr ⟨r, [], rfl, View.see_put_same _ _ _, rfl, rfl⟩⟩ rfl (h.mono ?_) ?_ (by simp; omega) (by simp; omega) ?_
    · exact put_le_hide hfr (View.Le.refl _)
    · exact put_le_hide hfr (View.Le.refl _)
    · intro z V' cs' hb hr' hle
      exact ⟨z, rfl, hb.slR hr' (View.minus_le _ _), hb.rowS hle, hle.trans (View.minus_le _ _)⟩
theorem cloneE2_ok {s : Sl} {l : List Ent} {V : View} (h : SlR V s l) (hl : l.length ≤ 1000) : CallV Tryd.prog 63 ⟨[.slice s.a s.n s.c]⟩ V fun r V' => ∃ x : Sl, r = .slice x.a x.n x.c ∧ SlR V' x l ∧ RowS V' V x 2 ∧ V.Le V' := by
  refine f63_x ?_
  unfold f63_n
  refine br_intro (fun hnil => ?_) (fun _ r hr => ?_)
  · have ha : s.a = none := Option.isNone_iff_eq_none.1 hnil
    have hl0 : l = [] := by
      cases l with
      | nil => rfl
      | cons b l => obtain ⟨ad, vs, h1, _⟩ := h.get 0 (by simp); rw [ha] at h1; cases h1
    subst hl0
    exact ⟨⟨none, 0, 0⟩, rfl, SlR.nil _ _ _, .inl rfl, View.Le.refl V⟩
  · have hfr : V.see r = none := View.see_none_of_ge hr
    refine appRow (α := Ent) (V0 := V) (l := []) (m := l) rfl (cs := []) ⟨rfl, Nat.le_refl _, Nat.zero_le _, .inr ⟨r, [], rfl, View.see_put_same _ _ _, rfl, rfl⟩⟩ rfl (h.mono ?_) ?_ (by simp; omega) (by simp; omega) ?_
    · exact put_le_hide hfr (View.Le.refl _)
    · exact put_le_hide hfr (View.Le.refl _)
    · intro z V' cs' hb hr' hle
      exact ⟨z, rfl, hb.slR hr' (View.minus_le _ _), hb.rowS hle, hle.trans (View.minus_le _ _)⟩
theorem copyN2_ok {n : Nod} {s e : Sl} {V : View} (h : NodR V s e n) (hl : LightN n) : CallV Tryd.prog 41 ⟨[nodV n s e]⟩ V fun r V' => ∃ s' e' : Sl, r = nodV n s' e' ∧ NodR V' s' e' n ∧ RowS V' V s' 1 ∧ RowS V' V e' 2 ∧ V.Le V' := by
  refine f41_x ?_
  unfold f41_n
  refine fun _ _ => ⟨trivial, V, View.Le.refl _, (cloneI2_ok h.seqs hl.1).mono ?_⟩
  rintro r V1 ⟨x, rfl, hx, hxs, hV1⟩
  refine ⟨x, rfl, hV1, (cloneE2_ok (h.ents.mono hV1) hl.2).mono ?_⟩
  rintro r V2 ⟨y, rfl, hy, hys, hV2⟩
  exact ⟨y, rfl, x, y, rfl, ⟨h.kind, h.links, h.size, hx.mono hV2, hy⟩, hxs.mono hV2 (View.Le.refl _), hys.mono (View.Le.refl _) hV1, hV1.trans hV2⟩
/-- A copy none of whose rows is U's; what it holds. -/
structure Cop (U V : View) (x : Sl) (t : Tre) (cs : List Value) : Prop where
  buf : Buf V x 31 5 cs
  rep : repL (V.minus x) cs t
  sp : repL (V.minus x) cs (List.replicate t.length (SpN.mk U))
  le : U.Le (V.minus x)
theorem copyT2_ok {s : Sl} {t : Tre} {V : View} (h : SlR V s t) (hl : t.length ≤ 1000 ∧ ∀ n ∈ t, LightN n) : CallV Tryd.prog 18 ⟨[treV s]⟩ V fun r V' => ∃ (x : Sl) (cs : List Value), r = treV x ∧ Cop V V' x t cs := by
  refine f18_x ?_
  unfold f18_n
  have hn := h.n
  refine fun _ _ _ => loop2 (k := .int .i64) (l := .sl) (fun (j : Int) (x : Sl) V' => ∃ (i : Nat) (cs : List Value), j = i ∧ i ≤ t.length ∧ Cop V V' x (t.take i) cs) (fun (j : Int) _ _ => t.length - j.toNat) ⟨0, [], rfl, by omega, Buf.nil _ _ _, rfl, rfl, View.Le.refl _⟩ ?_
  rintro (j : Int) (x : Sl) V1 ⟨i, cs, rfl, hi, ⟨hb, hr, hsp, hle⟩⟩
  have hV1 := hle.trans (View.minus_le _ _)
  refine br_intro (fun hlt => ?_) (fun hge => ?_)
  · have hlt : i < t.length := by have := of_decide_eq_true hlt; omega
    obtain ⟨ad, sq, en, ha, hc, hN⟩ := (h.mono hle).nodN hlt
    have hmem : t.getD i default ∈ t := by rw [getD_at hlt]; exact List.getElem_mem _
    have hx := hb.n_eq (α := Nod) hr
    rw [List.length_take] at hx
    have hl1 := hl.1
    refine ⟨by omega, by omega, ad, ha, _, _, _, sq, en, cellsAt_mono (View.minus_le _ _) hc, fun _ => ⟨trivial, V, hV1, ((copyN2_ok hN (hl.2 _ hmem)).besideB hb).mono ?_⟩⟩
    rintro r V2 ⟨U, ⟨s', e', rfl, hN', hs', he', hU⟩, hU2, hb2⟩
    have hstep := hU.trans hU2
    have hle2 := hle.trans hstep
    have hV2 := hle2.trans (View.minus_le _ _)
    refine ⟨_, _, _, s', e', rfl, hV2, fun r hr1 => ?_⟩
    have hfr := View.see_none_of_ge hr1
    refine ⟨hV2.trans (View.put_le hfr), ?_⟩
    refine apV_buf rfl (hb2.put hfr) (src := [.int .i64 (t.getD i default).kind, .int .i64 (t.getD i default).links, .int .i64 (t.getD i default).size, .slice s'.a s'.n s'.c, .slice e'.a e'.n e'.c]) (m := 1) ⟨rfl, rowAt_new (View.see_put_same _ _ _) rfl⟩ rfl rfl (by show (x.n + 1) * 72 ≤ _; omega) (by show x.n + 1 ≤ _; omega) fun z V3 hb3 _ hle3 => ?_
    have h23 : (V2.minus x).Le (V3.minus z) := (put_minus_le hfr).trans hle3
    refine ⟨inI64 (by omega) (by omega), ⟨i + 1, _, by omega, by omega, hb3, ?_, ?_, hle2.trans h23⟩, by omega⟩
    · rw [List.take_add_one, List.getElem?_eq_getElem hlt, ← getD_at hlt]
      exact ((hr.mono hstep).mono h23).snoc (hN'.mono (hU2.trans h23)).rep
    · have e1 : List.replicate (t.take (i + 1)).length (SpN.mk V) = List.replicate (t.take i).length (SpN.mk V) ++ [SpN.mk V] := by
        rw [← List.replicate_succ', List.length_take, List.length_take]; congr 1; omega
      rw [e1]
      exact ((hsp.mono hstep).mono h23).snoc ⟨_, _, _, s', e', rfl, hs'.mono (hU2.trans h23) hle, he'.mono (hU2.trans h23) hle⟩
  · have hge : i = t.length := by have := of_decide_eq_false hge; omega
    subst hge
    rw [List.take_length] at hr hsp
    exact ⟨x, cs, rfl, hb, hr, hsp, hle⟩
theorem light_lightN {t : Tre} (h : LightT t) : t.length ≤ 1000 ∧ ∀ n ∈ t, LightN n := by
  refine ⟨by have := h.1; omega, fun n hn => ?_⟩
  have := h.2 n hn
  exact ⟨by omega, by omega⟩
/-- Views of one shape. -/
def Shp (W W' : View) : Prop := ∀ r all e, W.see r = some (.cells ⟨all⟩ e (0, 0)) → ∃ all', W'.see r = some (.cells ⟨all'⟩ e (0, 0)) ∧ all'.length = all.length
theorem RowS.shp {W W' U : View} {s : Sl} {sz : Nat} (hS : Shp W W') (h : RowS W U s sz) : RowS W' U s sz := by
  rcases h with h | ⟨r, all, e, h1, h2, h3, h4, h7⟩
  · exact .inl h
  · obtain ⟨all', h5, h6⟩ := hS r all e h2
    exact .inr ⟨r, all', e, h1, h5, by omega, h4, h7⟩
theorem shp_rep {W W' : View} (hS : Shp W W') : ∀ {cs : List Value} {l : List SpN}, repL W cs l → repL W' cs l
  | _, [], h => h
  | _, _ :: _, ⟨vs, us, e, ⟨k, l, z, sq, en, h1, h2, h3⟩, h⟩ => ⟨vs, us, e, ⟨k, l, z, sq, en, h1, h2.shp hS, h3.shp hS⟩, shp_rep hS h⟩
/-- What is spoilt. -/
structure Spo (U V : View) (x : Sl) (m : Nat) (cs : List Value) : Prop where
  buf : Buf V x 31 5 cs
  sp : repL (V.minus x) cs (List.replicate m (SpN.mk U))
  le : U.Le (V.minus x)
theorem Spo.write {U V : View} {x : Sl} {m : Nat} {cs : List Value} (h : Spo U V x m cs) {s : Sl} {sz : Nat} (hs : RowS (V.minus x) U s sz) {off : Nat} (ho : off < s.n * sz) (v : Value) :
    ∃ ad, s.a = some ad ∧ canSet V (ad.add off) 1 ∧ Spo U (V.sets (ad.add off) [v]) x m cs := by
  rcases hs with hs | ⟨r, all, e, h1, h2, h3, h4, _⟩
  · rw [hs] at ho; omega
  · have hsee := (View.minus_le V x).see _ _ h2
    have e0 : (⟨r, 0, none⟩ : Addr).add off = ⟨r, off, none⟩ := by rw [addr0_add]; simp
    have hne : ∀ ad, x.a = some ad → ad.block ≠ r := fun ad ha e => by
      have := minus_none (V := V) ha
      rw [e, h2] at this; cases this
    refine ⟨_, h1, ?_, ?_⟩
    · rw [e0]; exact canSet_of hsee (by omega)
    · rw [e0, sets_see hsee]
      have hput : ∀ i, i ≠ r → (V.put r (.cells ⟨putL all off [v]⟩ e (0, 0))).see i = V.see i := fun i hi => View.see_put_ne V _ hi
      have hms : ∀ i, i ≠ r → ((V.put r (.cells ⟨putL all off [v]⟩ e (0, 0))).minus x).see i = (V.minus x).see i := fun i hi => by
        unfold View.minus
        split
        · exact hput i hi
        · simp only [hide_see, hput i hi]
      have hmr : ((V.put r (.cells ⟨putL all off [v]⟩ e (0, 0))).minus x).see r = some (.cells ⟨putL all off [v]⟩ e (0, 0)) := by
        unfold View.minus
        split
        · exact View.see_put_same _ _ _
        · rename_i ad ha
          rw [hide_see, if_neg (fun e => hne ad ha e.symm)]; exact View.see_put_same _ _ _
      refine ⟨⟨h.buf.len, h.buf.le, h.buf.lim, ?_⟩, shp_rep ?_ h.sp, ⟨?_, ?_, ?_⟩⟩
      · rcases h.buf.own with h5 | ⟨q, al, h5, h6, h7⟩
        · exact .inl h5
        · exact .inr ⟨q, al, h5, by rw [hput q (hne _ h5)]; exact h6, h7⟩
      · intro i al e' hi
        by_cases hir : i = r
        · subst hir
          rw [h2] at hi
          cases hi
          exact ⟨_, hmr, by show (all.set off v).length = _; rw [List.length_set]⟩
        · exact ⟨al, by rw [hms i hir]; exact hi, rfl⟩
      · have h7 := h.le.size
        have h8 : (V.minus x).size = V.size := by unfold View.minus; split <;> rfl
        have h9 : ((V.put r (.cells ⟨putL all off [v]⟩ e (0, 0))).minus x).size = max V.size (r + 1) := by unfold View.minus; split <;> rfl
        omega
      · intro i o hi
        have hir : i ≠ r := fun e => by rw [e, h4] at hi; cases hi
        rw [hms i hir]; exact h.le.see _ _ hi
      · have h8 : (V.minus x).out = V.out := by unfold View.minus; split <;> rfl
        have h9 : ((V.put r (.cells ⟨putL all off [v]⟩ e (0, 0))).minus x).out = V.out := by unfold View.minus; split <;> rfl
        rw [h9, ← h8]; exact h.le.out
theorem Spo.node {U V : View} {x : Sl} {m : Nat} {cs : List Value} (h : Spo U V x m cs) {i : Nat} (hi : i < m) :
    ∃ ad sq en, x.a = some ad ∧ cs[i * 5 + 3]? = some (.slice sq.a sq.n sq.c) ∧ cs[i * 5 + 4]? = some (.slice en.a en.n en.c) ∧ RowS (V.minus x) U sq 1 ∧ RowS (V.minus x) U en 2 := by
  obtain ⟨vs, ⟨k, l, z, sq, en, rfl, h1, h2⟩, hg⟩ := h.sp.get i (by simpa using hi)
  rw [List.getElem_replicate] at h1 h2
  have hn := h.buf.n_eq (α := SpN) h.sp
  rw [List.length_replicate] at hn
  rcases h.buf.own with ⟨_, h5⟩ | ⟨q, al, h5, _⟩
  · have := h.buf.le; omega
  · exact ⟨_, sq, en, h5, hg 3 _ rfl, hg 4 _ rfl, h1, h2⟩
theorem Spo.cell {U V : View} {x : Sl} {m : Nat} {cs : List Value} (h : Spo U V x m cs) {ad : Addr} (ha : x.a = some ad) {i j : Nat} {v : Value} (hv : cs[i * 5 + j]? = some v) : V.cell? ((ad.add (i * 5)).add j) = some v := by
  have := h.buf.row
  rw [ha] at this
  rw [Addr.add_add]
  exact this.2 _ _ hv
theorem Spo.rows {U V' : View} {x : Sl} {m : Nat} {cs : List Value} (h : Spo U V' x m cs) {i : Nat} (hi : i < m) {s : Sl} {j : Nat} (hj : j = 3 ∨ j = 4) (hv : cs[i * 5 + j]? = some (.slice s.a s.n s.c)) : RowS (V'.minus x) U s (if j = 3 then 1 else 2) := by
  obtain ⟨ad, sq, en, _, h3, h4, h5, h6⟩ := h.node hi
  rcases hj with rfl | rfl
  · rw [h3] at hv
    simp only [Option.some.injEq, Value.slice.injEq] at hv
    obtain ⟨e1, e2, e3⟩ := hv
    have : sq = s := by cases sq; cases s; simp_all
    rw [if_pos rfl, ← this]; exact h5
  · rw [h4] at hv
    simp only [Option.some.injEq, Value.slice.injEq] at hv
    obtain ⟨e1, e2, e3⟩ := hv
    have : en = s := by cases en; cases s; simp_all
    rw [if_neg (by decide), ← this]; exact h6
theorem Cop.spo {U V : View} {x : Sl} {t : Tre} {cs : List Value} (h : Cop U V x t cs) : Spo U V x t.length cs := ⟨h.buf, h.sp, h.le⟩
theorem Cop.slR {U V : View} {x : Sl} {t : Tre} {cs : List Value} (h : Cop U V x t cs) : SlR V x t := h.buf.slR h.rep (View.minus_le _ _)
theorem Cop.vle {U V : View} {x : Sl} {t : Tre} {cs : List Value} (h : Cop U V x t cs) : U.Le V := h.le.trans (View.minus_le _ _)
theorem copyJ {s : Sl} {t : Tre} {V : View} {G : Sl → View → Prop} (h : SlR V s t) (hl : t.length ≤ 1000 ∧ ∀ n ∈ t, LightN n) (hG : ∀ x cs V', Cop V V' x t cs → G x V') :
    CallV Tryd.prog 18 ⟨[treV s]⟩ V fun r V' => ∃ x : Sl, r = treV x ∧ G x V' := (copyT2_ok h hl).mono fun _ V' ⟨x, cs, hr, hC⟩ => ⟨x, hr, hG x cs V' hC⟩
/-- Another copy behind it: it lies apart. -/
theorem refCopyJ {s : Sl} {t : Tre} {V V2 : View} {x : Sl} {cs : List Value} {G : Sl → View → Prop} (h : SlR V s t) (hl : t.length ≤ 1000 ∧ ∀ n ∈ t, LightN n) (hC : Cop V V2 x t cs) (hG : ∀ y U V', Cop U V' x t cs → SlR U y t → V.Le U → G y V') :
    CallV Tryd.prog 17 ⟨[treV s]⟩ V2 fun r V' => ∃ y : Sl, r = treV y ∧ G y V' := by
  have hx : ∀ ad, x.a = some ad → V.see ad.block = none := fun ad ha => see_none_le hC.le (minus_none ha)
  refine (CallV.frameG (K := fun r V' => ∃ y : Sl, r = treV y ∧ OwnT V V' y t) hC.vle ((refCopyT_ok h hl).mono fun r V' ⟨y, h1, h2⟩ => ⟨⟨y, h1, h2⟩, h2.le⟩)).mono ?_
  rintro r V3 ⟨U, ⟨y, rfl, hO⟩, hle, hU, h23, hno⟩
  have hsz := minus_mono h23 x
  have conv : ∀ {m : Nat} {cs : List Value}, repL (V2.minus x) cs (List.replicate m (SpN.mk V)) → repL (V3.minus x) cs (List.replicate m (SpN.mk U)) := by
    have row : ∀ {s : Sl} {sz : Nat}, RowS (V2.minus x) V s sz → RowS (V3.minus x) U s sz := by
      intro s sz hs
      rcases hs with hs | ⟨r, all, e, h1, h2, h3, h4, h5⟩
      · exact .inl hs
      · exact .inr ⟨r, all, e, h1, hsz.see _ _ h2, h3, hno r _ h4 ((View.minus_le _ _).see _ _ h2), h5⟩
    intro m
    induction m with
    | zero => intro cs h; exact h
    | succ m ih =>
      rintro cs ⟨vs, us, e, ⟨k, l, z, sq, en, h1, h2, h3⟩, h⟩
      exact ⟨vs, us, e, ⟨k, l, z, sq, en, h1, row h2, row h3⟩, ih h⟩
  refine ⟨y, rfl, hG y U V3 ⟨hC.buf.mono h23, hC.rep.mono hsz, conv hC.sp, ?_⟩ hO.slR hle⟩
  rcases hC.buf.own with ⟨ha, _⟩ | ⟨q, al, ha, hs, _⟩
  · unfold View.minus; rw [ha]; exact hU
  · have hq := hno q _ (hx _ ha) hs
    unfold View.minus
    rw [ha]
    exact ⟨hU.size, fun i o hi => by
      have hne : i ≠ q := fun e => by rw [e, hq] at hi; cases hi
      rw [hide_see, if_neg hne]; exact hU.see _ _ hi, hU.out⟩
set_option maxRecDepth 100000 in
theorem dirCopies_ok {s : Sl} {t : Tre} {a : Int} {V : View} (h : SlR V s t) (hin : inI .i64 a) (hg : Glo V) : CallV Tryd.prog 6 ⟨[treV s, .int .i64 a]⟩ V fun r V' => r = .bool true ∧ V.Le V' := by
  refine f6_x ?_
  unfold f6_n
  refine fun _ => (light15s_ok h).mono ?_
  rintro r V1 ⟨x, rfl, x0, x1, x2, x3, rfl⟩
  refine ⟨x, rfl, br_intro (fun _ => awake15J (View.Le.refl _) hg fun V' hV => ⟨rfl, hV⟩) (fun hb => ?_)⟩
  have hL := x2 (by have := of_decide_eq_false hb; omega)
  have hl := light_lightN hL
  have h40 := hL.1
  have hn := h.n
  obtain ⟨CUT, hCUT⟩ : ∃ C : Ty [K.sl, K.sl] → View → Prop, ∀ q V', C q V' ↔ ∃ U cs, Cop U V' q.1 t cs ∧ SlR U q.2.1 t ∧ V1.Le U := ⟨_, fun _ _ => Iff.rfl⟩
  refine joinP_cut CUT ⟨trivial, V1, View.Le.refl _, ?_⟩ ?_
  · repeat' (first
      | (intro (_ : Nat))
      | (refine refCopyJ h hl hC fun y U V3 hC' hs hU => ?_)
      | (refine copyJ h hl fun x cs V2 hC => ?_)
      | exact (hCUT _ _).2 ⟨U, cs, hC', hs, hU⟩
      | exact hU.trans hC'.vle
      | exact hC.vle
      | exact View.Le.refl _
      | apply And.intro)
  rintro ⟨c, y, ⟨⟩⟩ V2 hcut
  obtain ⟨U, cs, hC, hy, hU⟩ := (hCUT _ _).1 hcut
  simp only at hC hy
  dsimp only [unc]
  have q2 := hU.trans hC.vle
  refine fun _ _ => (refSameT_ok hC.slR (h.mono q2)).mono ?_
  rintro r V3 ⟨rfl, rfl⟩
  refine ⟨_, rfl, br_intro (fun hb => absurd hb (by simp)) (fun _ => ?_)⟩
  have hcn := hC.slR.n
  refine loop1 (k := .int .i64) (fun (j : Int) V' => ∃ (i : Nat) (cs : List Value), j = i ∧ i ≤ t.length ∧ Spo U V' c t.length cs) (fun (j : Int) _ => t.length - j.toNat) ⟨0, cs, rfl, by omega, hC.spo⟩ ?_
  rintro (j : Int) V4 ⟨i, cs, rfl, hi, hS⟩
  refine br_intro (fun hlt => ?_) (fun hge => ?_)
  · have hlt : i < t.length := by have := of_decide_eq_true hlt; omega
    obtain ⟨ad, sq, en, ha, h3, h4, hsq, hen⟩ := hS.node hlt
    refine ⟨by omega, by omega, ad, ha, sq, hS.cell ha h3, ?_⟩
    refine loop1 (k := .int .i64) (fun (j : Int) V' => ∃ k : Nat, j = k ∧ k ≤ sq.n ∧ Spo U V' c t.length cs) (fun (j : Int) _ => sq.n - j.toNat) ⟨0, rfl, by omega, hS⟩ ?_
    rintro (j : Int) V5 ⟨k, rfl, hk, hS5⟩
    refine br_intro (fun hlt2 => ?_) (fun hge2 => ?_)
    · have hk : k < sq.n := by have := of_decide_eq_true hlt2; omega
      have hr := hS5.rows (s := sq) hlt (.inl rfl) h3
      rw [if_pos rfl] at hr
      obtain ⟨ad2, ha2, hcs, hS6⟩ := hS5.write hr (off := k * 1) (by omega) (.int .i64 a)
      exact ⟨by omega, by omega, ad, ha, sq, hS5.cell ha h3, by omega, by omega, ad2, ha2, hcs, inI64 (by have := hsq.lim; omega) (by have := hsq.lim; omega), ⟨k + 1, by omega, by omega, hS6⟩, by omega⟩
    · refine ⟨by omega, by omega, ad, ha, en, hS5.cell ha h4, ?_⟩
      refine loop1 (k := .int .i64) (fun (j : Int) V' => ∃ k : Nat, j = k ∧ k ≤ en.n ∧ Spo U V' c t.length cs) (fun (j : Int) _ => en.n - j.toNat) ⟨0, rfl, by omega, hS5⟩ ?_
      rintro (j : Int) V6 ⟨k, rfl, hk, hS6⟩
      refine br_intro (fun hlt3 => ?_) (fun hge3 => ?_)
      · have hk : k < en.n := by have := of_decide_eq_true hlt3; omega
        have hr := hS6.rows (s := en) hlt (.inr rfl) h4
        rw [if_neg (by decide)] at hr
        obtain ⟨ad2, ha2, hcs, hS7⟩ := hS6.write hr (off := k * 2 + 1) (by omega) (.int .i64 a)
        rw [← Addr.add_add] at hcs hS7
        exact ⟨by omega, by omega, ad, ha, en, hS6.cell ha h4, by omega, by omega, ad2, ha2, hcs, inI64 (by have := hen.lim; omega) (by have := hen.lim; omega), ⟨k + 1, by omega, by omega, hS7⟩, by omega⟩
      · have hset := hS6.buf.setC (α := SpN) hS6.sp (i := i) (by simpa using hlt)
        obtain ⟨ad3, vs, ha3, _, ⟨k3, l3, z3, sq3, en3, rfl, g1, g2⟩, hset⟩ := hset
        rw [List.getElem_replicate] at g1 g2
        obtain ⟨c1, c2, c3, c4⟩ := hset 2 (.int .i64 a) (SpN.mk U) (by decide) ⟨k3, l3, a, sq3, en3, rfl, g1, g2⟩
        refine ⟨by omega, by omega, ad3, ha3, c1, inI64 (by omega) (by omega), ⟨i + 1, _, by omega, by omega, ⟨c2, ?_, hS6.le.trans c4⟩⟩, by omega⟩
        rw [List.set_replicate_self] at c3
        exact c3
  · refine joinP_cut (fun g V' => g.1 = true ∧ V1.Le V') ((refSameT_ok (h.mono (hU.trans (hS.le.trans (View.minus_le _ _)))) (hy.mono (hS.le.trans (View.minus_le _ _)))).mono ?_) ?_
    · rintro r V5 ⟨rfl, rfl⟩
      have q5 := hU.trans (hS.le.trans (View.minus_le _ _))
      exact ⟨_, rfl, br_intro (fun _ => awake15J q5 (hg.mono q5) fun V' hV => ⟨rfl, hV⟩) (fun hf => absurd hf (by simp))⟩
    · rintro ⟨g, ⟨⟩⟩ V5 ⟨hg1, hV⟩
      simp only at hg1
      subst hg1
      exact ⟨rfl, hV⟩
end Go.Proofs.YtpalkdmngckcoaaDoor

/- Bits of numbers: plain lemmas. -/
namespace Go.Proofs.YtpalkdmngckcoaaDoor
open Go
theorem wrapI {n : Int} (h0 : -9223372036854775808 ≤ n) (h1 : n ≤ 9223372036854775807) : IntKind.wrap .i64 n = n := by
  unfold IntKind.wrap
  simp [IntKind.signed, IntKind.bits]
  omega
theorem ofInt_nat (w n : Nat) : BitVec.ofInt w (n : Int) = BitVec.ofNat w n := by
  simp
theorem and127 {n : Nat} (h : n ≤ 9223372036854775807) : bitsI .and .i64 (n : Int) 127 = ((n % 128 : Nat) : Int) := by
  have e : bitsI .and .i64 (n : Int) 127 = IntKind.wrap .i64 ((BitVec.ofInt 64 (n : Int) &&& BitVec.ofInt 64 ((127 : Nat) : Int)).toNat) := rfl
  rw [e, ofInt_nat, ofInt_nat, BitVec.toNat_and, BitVec.toNat_ofNat, BitVec.toNat_ofNat]
  have h1 : n % 2 ^ 64 = n := Nat.mod_eq_of_lt (by omega)
  have h2 : (127 : Nat) % 2 ^ 64 = 2 ^ 7 - 1 := by decide
  rw [h1, h2, Nat.and_two_pow_sub_one_eq_mod]
  exact wrapI (by omega) (by omega)
theorem or_low {m c : Nat} (hm : m ≤ 35184372088832) (hc : c < 128) : bitsI .or .i64 ((m : Int) * 128) (c : Int) = ((m * 128 + c : Nat) : Int) := by
  have e : bitsI .or .i64 ((m : Int) * 128) (c : Int) = IntKind.wrap .i64 ((BitVec.ofInt 64 ((m * 128 : Nat) : Int) ||| BitVec.ofInt 64 (c : Int)).toNat) := rfl
  rw [e, ofInt_nat, ofInt_nat, BitVec.toNat_or, BitVec.toNat_ofNat, BitVec.toNat_ofNat]
  have h1 : (m * 128) % 2 ^ 64 = m <<< 7 := by rw [Nat.shiftLeft_eq]; exact Nat.mod_eq_of_lt (by omega)
  have h2 : c % 2 ^ 64 = c := Nat.mod_eq_of_lt (by omega)
  rw [h1, h2, ← Nat.shiftLeft_add_eq_or_of_lt (i := 7) (by omega), Nat.shiftLeft_eq]
  exact wrapI (by omega) (by omega)
theorem or128 {c : Nat} (hc : c < 128) : bitsI .or .u8 (c : Int) 128 = ((c + 128 : Nat) : Int) := by
  have : ∀ c, c < 128 → bitsI .or .u8 ((c : Nat) : Int) 128 = ((c + 128 : Nat) : Int) := by decide +kernel
  exact this c hc
end Go.Proofs.YtpalkdmngckcoaaDoor

/- Contracts of the reference's numbers and its reader. -/
namespace Go.Proofs.YtpalkdmngckcoaaDoor
open Go
/-- What the reference's 'number' answers. -/
def num3 (most : Nat) (b : List UInt8) (n k : Int) (ok : Bool) : Prop := match numP most b with
  | none => ok = false
  | some (m, r) => ok = true ∧ n = m ∧ k = (b.length - r.length : Nat)
end Go.Proofs.YtpalkdmngckcoaaDoor

/- Contracts of the reference's numbers and texts that are laid behind bytes. -/
namespace Go.Proofs.YtpalkdmngckcoaaDoor
open Go
/-- Two rows of one's own apart from one another. -/
theorem Buf.swap {V : View} {x y : Sl} {e e' : TypeId} {sz sz' : Nat} {cs ds : List Value} (h : Buf (V.minus y) x e sz cs) (k : Buf V y e' sz' ds) : Buf (V.minus x) y e' sz' ds := by
  refine ⟨k.len, k.le, k.lim, ?_⟩
  rcases k.own with k1 | ⟨r, all, k1, k2, k3⟩
  · exact .inl k1
  · refine .inr ⟨r, all, k1, ?_, k3⟩
    rcases h.own with ⟨h1, _⟩ | ⟨q, all', h1, h2, _⟩
    · unfold View.minus; rw [h1]; exact k2
    · unfold View.minus at h2 ⊢
      rw [k1] at h2
      rw [h1]
      simp only [hide_see] at h2 ⊢
      split at h2
      · cases h2
      · rename_i hne; rw [if_neg (fun e => hne e.symm)]; exact k2
theorem minus_minus_le (V : View) (x y : Sl) : ((V.minus x).minus y).Le ((V.minus y).minus x) := by
  refine ⟨by unfold View.minus; split <;> split <;> exact Nat.le_refl _, fun i o ho => ?_, by unfold View.minus; split <;> split <;> rfl⟩
  unfold View.minus at *
  cases hx : x.a <;> cases hy : y.a <;> simp only [hx, hy, hide_see] at ho ⊢
  · exact ho
  · exact ho
  · exact ho
  · split at ho
    · cases ho
    · rename_i h1
      split at ho
      · cases ho
      · rename_i h2
        rw [if_neg h2, if_neg h1]; exact ho
/-- Digits, the least first, without marks. -/
def dgL : Nat → Nat → List UInt8
  | 0, _ => []
  | f + 1, n => if n = 0 then [] else UInt8.ofNat (n % 128) :: dgL f (n / 128)
def markD (b : UInt8) : UInt8 := UInt8.ofNat (b.toNat + 128)
theorem dgL_mark : ∀ (f n : Nat), (dgL f n).map markD = loL f n
  | 0, _ => rfl
  | f + 1, n => by
    unfold dgL loL
    split
    · rfl
    · rw [List.map_cons, dgL_mark f]
      unfold markD
      rw [toNat_ofNat_lt (by omega)]
theorem dgL_lt : ∀ (f n : Nat), ∀ b ∈ dgL f n, b.toNat < 128
  | 0, _, b, h => by simp [dgL] at h
  | f + 1, n, b, h => by
    unfold dgL at h
    split at h
    · simp at h
    · rcases List.mem_cons.1 h with rfl | h
      · rw [toNat_ofNat_lt (by omega)]; omega
      · exact dgL_lt f _ b h
theorem dgL_len : ∀ (f n : Nat), (dgL f n).length ≤ f
  | 0, _ => by simp [dgL]
  | f + 1, n => by
    unfold dgL
    split
    · simp
    · have := dgL_len f (n / 128); simp; omega
theorem numL_dg (n : Nat) : numL n = (UInt8.ofNat (n % 128) :: (dgL 6 (n / 128)).map markD).reverse := by rw [dgL_mark, numL_rev]
/-- What stands at a place, counted from the end. -/
theorem numL_at {n : Nat} {i : Nat} (h : i < (UInt8.ofNat (n % 128) :: dgL 6 (n / 128)).length) :
    (numL n)[(UInt8.ofNat (n % 128) :: dgL 6 (n / 128)).length - 1 - i]? = some (if i = 0 then (UInt8.ofNat (n % 128) :: dgL 6 (n / 128))[i] else markD (UInt8.ofNat (n % 128) :: dgL 6 (n / 128))[i]) := by
  rw [numL_dg]
  simp only [List.length_cons] at h ⊢
  rw [List.getElem?_reverse (by simp; omega)]
  simp only [List.length_cons, List.length_map]
  rw [show (dgL 6 (n / 128)).length + 1 - 1 - ((dgL 6 (n / 128)).length + 1 - 1 - i) = i by omega]
  cases i with
  | zero => simp
  | succ i => simp [List.getElem?_eq_getElem (show i < (dgL 6 (n / 128)).length by omega)]
theorem clamp3_eq (n : Int) : (if (if (1099511627776 : Int) < n then (1099511627776 : Int) else n) > (0 : Int) then if (1099511627776 : Int) < n then (1099511627776 : Int) else n else (0 : Int)) = (clampN n : Int) := by
  unfold clampN
  split <;> split <;> omega
theorem row1 {V : View} {r : Nat} {v : Int} {c : UInt8} (hv : v = (c.toNat : Int)) (h : V.see r = some (.cells ⟨putL [.int .u8 0] 0 [.int .u8 v]⟩ 5 (0, 0))) : rowAt V (some ⟨r, 0, none⟩) (1 * 1) (u8s [c]) := by
  subst hv
  exact rowAt_new h rfl
end Go.Proofs.YtpalkdmngckcoaaDoor

/- Contracts of the reference's roots: bytes, tree, refs. -/
namespace Go.Proofs.YtpalkdmngckcoaaDoor
open Go
theorem minus2_mono {V V' : View} (h : V.Le V') (x y : Sl) : ((V.minus x).minus y).Le ((V'.minus x).minus y) := minus_mono (minus_mono h x) y
/-- A call beside two rows of one's own. -/
theorem CallV.besideB2 {P : Program} {f : FuncId} {args : Array Value} {V : View} {x y : Sl} {e e' : TypeId} {sz sz' : Nat} {cs ds : List Value} {K : Value → View → Prop} (h : CallV P f args ((V.minus x).minus y) K) (hx : Buf V x e sz cs) (hy : Buf (V.minus x) y e' sz' ds) :
    CallV P f args V fun r V' => ∃ U', K r U' ∧ U'.Le ((V'.minus x).minus y) ∧ Buf V' x e sz cs ∧ Buf (V'.minus x) y e' sz' ds := by
  refine ((h.besideB hy).besideB hx).mono ?_
  rintro r V' ⟨U2, ⟨U1, hk, h1, hy2⟩, h2, hx2⟩
  exact ⟨U1, hk, h1.trans (minus_mono h2 y), hx2, hy2.mono h2⟩
/-! ### refs -/
theorem mayN_seqs5 {n : Nod} (h : mayN n = true) : n.seqs.length ≤ 5 := mayN_seqs h
end Go.Proofs.YtpalkdmngckcoaaDoor
