/- Texts joined: Pool6Ok, TurnOk, Round, Rf21, ChipNew1Ok, ChipNewOk, Pool7Ok, PoolNilOk, PoolNil2Ok, In, PolIn, BitsLaw, ObS, PutSOk, WearLaw, RefPOk, RefSOk, WhereOk. -/
import Derived.Test.YtgkmcnafkhdlnaaGreatPk2
import Derived.RangeFuncNested
import Derived.RangeFuncBound
import Derived.RangeFuncCalls
import Derived.RangeFuncLeaves
import Derived.RangeFuncWrites
import Derived.Shelf.Abstract
import Derived.WalkKit
import Derived.OwnWalkIn
import Derived.TacticsInMore
import Derived.LoopNIn
import Derived.LoopIn
import Derived.Test.YtgkmcnafkhdlnaaGreatChecked
import Derived.Test.YtgkmcnafkhdlnaaGreatSoundC
import Derived.OrdersIn
import Derived.TacticsIn
import Derived.Test.YtgkmcnafkhdlnaaGreatPk1
import Derived.Test.YtgkmcnafkhdlnaaGreatCore
set_option linter.unusedVariables false
set_option linter.unusedSimpArgs false
/- The pool: Read, Live, Seq, Open. -/
namespace Go.Proofs.YtgkmcnafkhdlnaaGreat
open Go
def readC (C : Chp) : Chp := { C with reads := C.reads + 1 }
theorem polRead_ok {V : View} {O : Nat → Prop} {A : PAd} {C : Chp} {P : Pol} (h : PoolR V O A C P) (hq : Quiet C) {r : P2} {i j : Nat} (hl : lookP r P.T = some ((i : Int), (j : Int))) (hi : i < C.bl.length) (hj : j < C.pages) {b d : List UInt8} (hb : C.bl[i].2.pages[j]? = some b) {p q : Int} (hp : parseS b = some (p, q, d)) :
    CallV Tryz.prog 13 ⟨[.pointer (some ⟨A.p, 0, none⟩), encP r]⟩ V fun rr V' => ∃ y : Sl, rr = .tuple ⟨[.slice y.a y.n y.c, .int .i64 0]⟩ ∧ SlR V' y d ∧ PoolR V' O A (readC C) P ∧ Wr O V V' := by
  refine f13_x ?_
  unfold f13_n
  intro _
  refine br_intro (fun h0 => by cases h0) (fun _ => ?_)
  have ht := at_ok h.tab r
  rw [hl] at ht
  obtain ⟨q1, q2, q3, q4, q5, q6⟩ := hq.bl _ (List.getElem_mem hi)
  refine joinP_cut (fun z V' => z.1 = true ∧ z.2.1 = (i : Int) ∧ z.2.2.1 = (j : Int) ∧ V' = V) ⟨trivial, V, View.Le.refl _, _, rfl, _, h.cell 7 rfl, ?_, fun _ => ⟨View.Le.refl _, ?_⟩⟩ (fun z V1 hz => ?_)
  · refine ht.mono ?_
    rintro rr V1 ⟨rfl, rfl⟩
    exact ⟨_, _, _, rfl, View.Le.refl _, fun _ => ⟨View.Le.refl _, rfl, rfl, rfl, rfl⟩⟩
  · refine ht.mono ?_
    rintro rr V1 ⟨rfl, rfl⟩
    exact ⟨_, _, _, rfl, View.Le.refl _, rfl, rfl, rfl, rfl⟩
  rcases z with ⟨z1, z2, z3, ⟨⟩⟩
  obtain ⟨rfl, rfl, rfl, rfl⟩ := hz
  dsimp only [unc]
  intro _
  have hbe : C.bl[i].2.pages[j]'(by rw [q5]; exact hj) = b := by
    rw [List.getElem?_eq_getElem (by rw [q5]; exact hj)] at hb; exact Option.some.inj hb
  have hbl : b.length ≤ 2000 := by rw [← hbe]; exact q6 _ (List.getElem_mem _)
  refine br_intro (fun h0 => by cases h0) (fun _ => ⟨_, rfl, false, h.cell 11 rfl, br_intro (fun h0 => by cases h0) (fun _ => ⟨trivial, V1, View.Le.refl _, _, rfl, _, h.cell 0 rfl, ?_⟩)⟩)
  refine (chipRead_ok h.chip h.seen hi hj q5 hq.down (inI64 (by have := hq.reads; omega) (by have := hq.reads; omega)) (by rw [hbe]; exact hbl)).mono ?_
  rintro rr V2 ⟨y, rfl, c2, w2, hy, s2⟩
  rw [hbe] at hy
  obtain ⟨h2, w2'⟩ := h.setChip (w2.imp fun k hk => .inl hk) c2 (fun k hk => hk) s2
  refine ⟨y, _, rfl, (meets_ok h2).mono ?_⟩
  rintro rr V3 ⟨rfl, h3, w3⟩
  refine ⟨_, rfl, br_intro (fun h0 => by cases h0) (fun _ => ?_)⟩
  have hy3 : SlR V3 y b := (hy.mono (w3.sans (O := O) fun _ h => h)).mono (sans_le _ _)
  have hpp := parse_ok hy3 hbl
  rw [hp] at hpp
  refine hpp.mono ?_
  rintro rr V4 ⟨hV4, z, rfl, hz⟩
  exact ⟨p, q, z, _, rfl, fun _ => ⟨z, rfl, hz, h3.le hV4, (w2'.trans w3).trans (.of hV4)⟩⟩
theorem live1_ok {V : View} {b p : Nat} {f : Sl} {fr : List Rf} {x : P2 × P2} (h1 : V.cell? ⟨b, 0, none⟩ = some (.pointer (some ⟨p, 0, none⟩))) (h2 : V.cell? ((⟨p, 0, none⟩ : Addr).add 8) = some (.slice f.a f.n f.c)) (h : SlR V f fr) : CallV Tryz.prog 54 ⟨[encF x, .pointer (some ⟨b, 0, none⟩)]⟩ V fun r V' => r = .bool (decide ((⟨x.1.1, x.1.2⟩ : Rf) ∈ fr)) ∧ V' = V := by
  refine f54_x ?_
  unfold f54_n
  intro _
  refine ⟨trivial, V, View.Le.refl _, _, h1, _, rfl, f, h2, (containsR_ok (x := x.1) h).mono ?_⟩
  rintro r V1 ⟨rfl, rfl⟩
  exact ⟨_, rfl, rfl, rfl⟩
theorem indexL_ok {V : View} {s : Sl} {l : PL} {b p : Nat} {f : Sl} (h : SlR V s l) (h1 : V.cell? ⟨b, 0, none⟩ = some (.pointer (some ⟨p, 0, none⟩))) (h2 : V.cell? ((⟨p, 0, none⟩ : Addr).add 8) = some (.slice f.a f.n f.c)) (hf : SlR V f ([] : List Rf)) :
    CallV Tryz.prog 92 ⟨[.slice s.a s.n s.c, .func (.func 54) ⟨[]⟩ ⟨[.pointer (some ⟨b, 0, none⟩)]⟩]⟩ V fun r V' => r = .int .i64 (-1) ∧ V' = V := by
  refine f92_x (x1 := []) (y1 := [.pointer (some ⟨b, 0, none⟩)]) ?_
  unfold f92_n
  have hn := h.n
  have hlim := h.lim
  refine loop1 (k := .int .i64) (fun (i : Int) V' => ∃ j : Nat, i = j ∧ j ≤ l.length ∧ V' = V) (fun (i : Int) _ => l.length - i.toNat) ⟨0, rfl, Nat.zero_le _, rfl⟩ ?_
  rintro (i : Int) V' ⟨j, rfl, hj, rfl⟩
  refine br_intro (fun hlt => ?_) (fun _ => ⟨rfl, rfl⟩)
  have hlt : j < l.length := by have := of_decide_eq_true hlt; omega
  obtain ⟨ad, hl, ha, hc⟩ := h.fnd (x := (j : Int)) (by omega) (by omega)
  refine ⟨by omega, by omega, ad, ha, _, _, _, _, hc, (live1_ok (x := l[(j : Int).toNat]) h1 h2 hf).mono ?_⟩
  rintro r V1 ⟨rfl, rfl⟩
  exact ⟨_, rfl, br_intro (fun hb => by simp at hb) (fun _ => ⟨inI64 (by omega) (by omega), ⟨j + 1, by omega, by omega, rfl⟩, by omega⟩)⟩
/-- Where nothing is new, all is live. -/
theorem polLive_ok {V : View} {O : Nat → Prop} {A : PAd} {C : Chp} {P : Pol} (h : PoolR V O A C P) (hf : P.fr = []) (hT : P.T.length ≤ 1000000) : CallV Tryz.prog 16 ⟨[.pointer (some ⟨A.p, 0, none⟩)]⟩ V fun r V' => ∃ y : Sl, r = .slice y.a y.n y.c ∧ y.n = P.T.length ∧ V.Le V' := by
  refine f16_x ?_
  unfold f16_n
  intro b hb
  have hp := View.put_le (o := .cells ⟨[.pointer (some ⟨A.p, 0, none⟩)]⟩ 31) hb
  have h1 := h.le hp
  have cb : (V.put b (.cells ⟨[.pointer (some ⟨A.p, 0, none⟩)]⟩ 31)).cell? ⟨b, 0, none⟩ = some (.pointer (some ⟨A.p, 0, none⟩)) := cell_of_see (View.see_put_same _ _ _) rfl
  refine ⟨_, cb, br_intro (fun h0 => by cases h0) (fun _ => ⟨_, cb, _, rfl, _, h1.cell 7 rfl, (all_ok h1.tab hT).mono ?_⟩)⟩
  rintro r V2 ⟨y, m, rfl, hpm, _, hy, hle⟩
  have hV2 := hle.trans (View.minus_le _ _)
  have h2 := h1.le hV2
  have hys : SlR V2 y m := Buf.slR (α := P2 × P2) hy (repL_fl _ m) (View.Le.refl _)
  obtain ⟨cs, hb2, hr2⟩ := h2.frs
  rw [hf] at hr2
  refine ⟨y, rfl, ?_⟩
  refine f52_x (x1 := []) (y1 := [.pointer (some ⟨b, 0, none⟩)]) ?_
  unfold f52_n
  refine (indexL_ok hys (hV2.cell cb) (h2.cell 8 rfl) (hb2.slR hr2 (View.Le.refl _))).mono ?_
  rintro r V3 ⟨rfl, rfl⟩
  exact ⟨_, rfl, br_intro (fun _ => ⟨y, rfl, y, rfl, by rw [hys.n]; exact hpm.length_eq, hp.trans hV2⟩) (fun h0 => by cases h0)⟩
theorem polSeq_ok {V : View} {O : Nat → Prop} {A : PAd} {C : Chp} {P : Pol} (h : PoolR V O A C P) : CallV Tryz.prog 18 ⟨[.pointer (some ⟨A.p, 0, none⟩)]⟩ V fun r V' => r = .int .i64 P.seq ∧ V' = V := by
  refine f18_x ?_
  unfold f18_n
  exact br_intro (fun h0 => by cases h0) (fun _ => ⟨_, rfl, P.seq, h.cell 9 rfl, rfl, rfl⟩)
/-! ### Open -/
theorem wrongNone_ok {V : View} {a : Option Addr} {c : Nat} : CallV Tryz.prog 48 ⟨[.pointer a, .slice none 0 c]⟩ V fun r V' => r = .bool false ∧ V.Le V' := by
  refine f48_x (a1 := ⟨none, 0, c⟩) ?_
  unfold f48_n
  refine new_ok.mono ?_
  rintro r V1 ⟨t, ra, rb, rfl, _, hV1, _⟩
  refine ⟨_, rfl, loop1 (k := .int .i64) (fun (i : Int) V' => i = 0 ∧ V' = V1) (fun _ _ => 0) ⟨rfl, rfl⟩ ?_⟩
  rintro (i : Int) V' ⟨rfl, rfl⟩
  exact br_intro (fun h0 => by cases h0) (fun _ => ⟨rfl, hV1⟩)
/-- A pool of nothing, on a chip on which nothing was programmed. -/
theorem open_ok {V : View} {O : Nat → Prop} {c : Nat} {x : Sl} {C : Chp} {g : Cfg} {seq : Int} (h : ChipR V O c x C) (hO : ∀ i, O i → V.see i ≠ none) (hq : Quiet C) (h0 : 0 < C.bl.length) (hb : g.bl = C.bl.length) (hp : g.pg = C.pages) (hf : fitsC g 0 = true) (hs0 : 0 ≤ seq) (hs1 : seq ≤ 1099511627776) :
    CallV Tryz.prog 14 ⟨[.pointer (some ⟨c, 0, none⟩), cfgV g, .int .i64 0, .slice none 0 0, .int .i64 seq]⟩ V fun r V' => ∃ p t ra rb, r = .tuple ⟨[.pointer (some ⟨p, 0, none⟩), .int .i64 0]⟩ ∧ PoolR V' (fun i => O i ∨ PolO ⟨p, c, t, ra, rb, x, ⟨none, 0, 0⟩⟩ i) ⟨p, c, t, ra, rb, x, ⟨none, 0, 0⟩⟩ C ⟨g, [], [], seq, -1⟩ ∧ V.Le V' ∧ (∀ i, PolO ⟨p, c, t, ra, rb, x, ⟨none, 0, 0⟩⟩ i → V.see i = none) := by
  refine f14_x (a3 := ⟨none, 0, 0⟩) ?_
  unfold f14_n
  intro _
  refine (blocks_ok h hO hq.sz).mono ?_
  rintro r V1 ⟨y, rfl, hV1, hy⟩
  have hyn := hy.n
  rw [List.length_map] at hyn
  refine ⟨y, rfl, joinP_cut (fun z V' => z.1 = false ∧ V1.Le V') ⟨trivial, V1, View.Le.refl _, br_intro (fun hb1 => ?_) (fun _ => ?_)⟩ (fun z V2 hz => ?_)⟩
  · rw [decide_eq_false (show ¬ (y.n : Int) = 0 by omega), decide_eq_true (show (y.n : Int) = g.bl by omega)] at hb1
    cases hb1
  · have hy1 := hy.mono (sans_le _ _)
    obtain ⟨ad, z, hx, ha, hc, _, _, hz⟩ := hy1.blk (x := 0) (by omega) (by omega)
    have e0 : ad.add 0 = ad := Addr.add_zero _
    have hzn := hz.n
    have hmem : (C.bl.map Prod.snd)[(0 : Int).toNat] ∈ C.bl.map Prod.snd := List.getElem_mem _
    obtain ⟨q, hqm, hqe⟩ := List.mem_map.1 hmem
    have hpl := (hq.bl q hqm).2.2.2.2.1
    rw [hqe] at hpl
    refine ⟨by omega, by omega, ad, ha, z, ?_, br_intro (fun hb1 => ?_) (fun _ => ?_)⟩
    · have := hc 3 _ rfl
      simpa [Addr.add_zero] using this
    · rw [decide_eq_true (show (z.n : Int) = g.pg by omega)] at hb1; cases hb1
    refine (planFits_ok g 0).mono ?_
    rintro r V2 ⟨rfl, rfl⟩
    rw [hf]
    refine ⟨_, rfl, br_intro (fun hb1 => by cases hb1) (fun _ => (blkBad_ok hy1).mono ?_)⟩
    rintro r V3 ⟨rfl, rfl⟩
    rw [hq.bad0]
    refine ⟨_, rfl, br_intro (fun hb1 => ?_) (fun _ => wrongNone_ok.mono ?_)⟩
    · rw [decide_eq_false (show ¬ seq < 0 by omega), decide_eq_false (show ¬ 1099511627776 < seq by omega)] at hb1
      simp at hb1
    · rintro r V4 ⟨rfl, hV4⟩
      exact ⟨_, rfl, rfl, hV4⟩
  rcases z with ⟨z, ⟨⟩⟩
  obtain ⟨hz, hV2⟩ := hz
  try simp only at hz
  dsimp only [unc]
  subst hz
  have hV := hV1.trans hV2
  have h2 := h.le hV
  refine br_intro (fun hb1 => by cases hb1) (fun _ => (down_ok h2).mono ?_)
  rintro r V3 ⟨rfl, rfl⟩
  rw [hq.down]
  refine ⟨_, rfl, br_intro (fun hb1 => by cases hb1) (fun _ => ⟨trivial, V3, View.Le.refl _, new_ok.mono ?_⟩)⟩
  rintro r V4 ⟨t, ra, rb, rfl, ht, hV4, nt, na, nb⟩
  refine ⟨_, rfl, hV4, fun p => loop1 (k := .int .i64) (fun (i : Int) V' => i = 0 ∧ V' = V4) (fun _ _ => 0) ⟨rfl, rfl⟩ ?_⟩
  rintro (i : Int) V' ⟨rfl, rfl⟩
  refine br_intro (fun hb1 => by cases hb1) (fun _ hpn => ?_)
  have hpp := View.put_le (o := .cells ⟨polL ⟨p, c, t, ra, rb, x, ⟨none, 0, 0⟩⟩ ⟨g, [], [], seq, -1⟩⟩ 83) hpn
  have hVe : V.Le V' := hV.trans hV4
  have un : ∀ {i : Nat}, V3.see i = none → V.see i = none := fun {i} hi => by
    cases hs : V.see i with
    | none => rfl
    | some o => rw [hV.see _ _ hs] at hi; cases hi
  have hnp : V.see p = none := by
    cases hs : V.see p with
    | none => rfl
    | some o => rw [hVe.see _ _ hs] at hpn; cases hpn
  have hno : ∀ i, PolO ⟨p, c, t, ra, rb, x, ⟨none, 0, 0⟩⟩ i → V.see i = none := by
    rintro i (rfl | rfl | rfl | rfl | ⟨a, ha, _⟩)
    · exact hnp
    · exact un nt
    · exact un na
    · exact un nb
    · cases ha
  have hst : ∃ o, V'.see t = some o := by
    have := ht.ca
    unfold View.cell? at this
    cases hs : V'.see t with
    | none => simp [hs] at this
    | some o => exact ⟨o, rfl⟩
  have hsa : ∃ o, V'.see ra = some o := by obtain ⟨_, _, _, k, _⟩ := ht.ma.ex; exact ⟨_, k⟩
  have hsb : ∃ o, V'.see rb = some o := by obtain ⟨_, _, _, k, _⟩ := ht.mb.ex; exact ⟨_, k⟩
  have ne : ∀ {k : Nat}, (∃ o, V'.see k = some o) → p ≠ k := by
    rintro k ⟨o, ho⟩ rfl
    rw [hpn] at ho; cases ho
  refine ⟨p, t, ra, rb, rfl, ⟨View.see_put_same _ _ _, ?_, ht.le hpp, ⟨[], Buf.nil _ _ _, rfl⟩, fun i hi => .inr hi, fun i hi hc => ?_, ⟨ne hst, ne hsa, ne hsb⟩, fun a ha => (by cases ha), ?_⟩, hVe.trans hpp, hno⟩
  · exact h.wr (B := fun _ => False) (Wr.of (hVe.trans hpp)) (fun _ h => h.elim) (fun _ h => h.elim) (fun i hi => hi.elim .inl fun k => .inr (hno i k)) (fun i hi => .inl (h.own hi))
  · exact h.seen hc (hno i hi)
  · rintro i (hi | hi)
    · exact seen_le (hVe.trans hpp) hO i hi
    · rcases hi with rfl | rfl | rfl | rfl | ⟨a, ha, _⟩
      · rw [View.see_put_same]; simp
      · obtain ⟨o, ho⟩ := hst; exact fun e => absurd ((hpp.see _ _ ho).symm.trans e) (by simp)
      · obtain ⟨o, ho⟩ := hsa; exact fun e => absurd ((hpp.see _ _ ho).symm.trans e) (by simp)
      · obtain ⟨o, ho⟩ := hsb; exact fun e => absurd ((hpp.see _ _ ho).symm.trans e) (by simp)
      · cases ha
end Go.Proofs.YtgkmcnafkhdlnaaGreat
/- The numbers in turn, as a range over a function has them. -/
namespace Go.Proofs.YtgkmcnafkhdlnaaGreat
open Go Go.RowKit Go.Shelf
attribute [local go_sem] Oper.semAt_some
/-- 0, .., k - 1. -/
def uptoZ (k : Nat) : List Int := (List.range k).map fun (j : Nat) => (j : Int)
theorem uptoZ_succ (k : Nat) : uptoZ (k + 1) = uptoZ k ++ [(k : Int)] := by simp [uptoZ, List.range_succ]
theorem uptoZ_len (k : Nat) : (uptoZ k).length = k := by simp [uptoZ]
theorem YieldAt.any {m m' : Nat} {P : Program} {l : Nat} {args : Array Value} {W : World} {R : Ending → World → Prop} (h : YieldAt Fence.wide m P l args W R) : YieldAt Fence.wide m' P l args W R :=
  let ⟨fn, tmps, assign, body, hy, h1, h2⟩ := h
  ⟨fn, tmps, assign, body, hy, h1, fun c cs _ => h2 c cs (room_wide _)⟩
set_option maxRecDepth 100000 in
set_option maxHeartbeats 2000000 in
theorem upTo_in (n l k : Nat) (hk : k ≤ 1000000) (p0 : List Int) (J Jx : List Int → World → Prop)
    (hY : ∀ i W, i < k → J (p0 ++ uptoZ i) W → YieldAt Fence.wide (n - 1) Tryz.prog l #[.int .i64 (i : Int)] W fun e W' =>
      (e = .returned (.bool true) ∧ J (p0 ++ uptoZ (i + 1)) W') ∨ (e = .returned (.bool false) ∧ Jx (p0 ++ uptoZ (i + 1)) W'))
    (W : World) (h0 : J p0 W) :
    CallsIn Fence.wide n Tryz.prog 101 #[.int .i64 0, .int .i64 k, .func (.yield l) #[] #[]] W fun e W' =>
      (e = .returned (.bool true) ∧ J (p0 ++ uptoZ k) W') ∨ (e = .returned (.bool false) ∧ ∃ i, 0 < i ∧ i ≤ k ∧ Jx (p0 ++ uptoZ i) W') := by
  refine callsIn_of_wp Tryz.func101 rfl trivial ?_ rfl
  simp only [Tryz.ntmps101, List.size_toArray, List.length_cons, List.length_nil, Nat.reduceAdd, Nat.reduceSub, Array.replicate_succ, Array.replicate_zero, List.push_toArray, List.append_toArray, List.nil_append, List.cons_append]
  gi_wp2
  gi_loopw [7] (fun i wr => ∃ j : Nat, j ≤ k ∧ i = .int .i64 j ∧ J (p0 ++ uptoZ j) wr)
    (fun i _ => k - (intOf i).toNat)
  case atStart => exact ⟨0, Nat.zero_le _, rfl, by simpa [uptoZ] using h0⟩
  case round =>
    obtain ⟨j, hj, rfl, hJs⟩ := hrel
    by_cases hlt : j < k
    · obtain ⟨fn, tmps, assign, body, hy, hR⟩ := hY j wr hlt hJs
      gi_wp2
      refine ⟨fun e => by simp [Fence.wide] at e, hR.mono ?_⟩
      rintro e W3 (⟨rfl, hJ3⟩ | ⟨rfl, hJx3⟩)
      · gi_wp2
        go_roundw
        case rel => exact ⟨j + 1, by omega, by simp, hJ3⟩
        case measure => simp [intOf]; omega
      · gi_wp2
        refine bodyPost_ret (results_tmp rfl _ _ _) rfl ?_
        exact .inr ⟨rfl, j + 1, by omega, by omega, hJx3⟩
    · obtain rfl : j = k := by omega
      gi_wp2
      refine bodyPost_ret (results_tmp rfl _ _ _) rfl ?_
      exact .inl ⟨rfl, hJs⟩
set_option maxRecDepth 100000 in
set_option maxHeartbeats 2000000 in
theorem turn1_in (n l k : Nat) (hk : k ≤ 1000000) (J Jx : List Int → World → Prop)
    (c1 : ∀ W, J [] W → CallsIn Fence.wide (n - 1) Tryz.prog 101 #[.int .i64 0, .int .i64 k, .func (.yield l) #[] #[]] W fun e W' =>
      (e = .returned (.bool true) ∧ J (uptoZ k) W') ∨ (e = .returned (.bool false) ∧ ∃ i, 0 < i ∧ i ≤ k ∧ Jx (uptoZ i) W'))
    (c2 : ∀ W, J (uptoZ k) W → CallsIn Fence.wide (n - 1) Tryz.prog 101 #[.int .i64 0, .int .i64 0, .func (.yield l) #[] #[]] W fun e W' => e = .returned (.bool true) ∧ J (uptoZ k) W')
    (W : World) {bn bf : Nat} (g1 : W.cell? ⟨bn, 0, none⟩ = some (.int .i64 k)) (g2 : W.cell? ⟨bf, 0, none⟩ = some (.int .i64 0)) (h0 : J [] W) :
    CallsIn Fence.wide n Tryz.prog 100 #[.func (.yield l) #[] #[], .pointer (some ⟨bn, 0, none⟩), .pointer (some ⟨bf, 0, none⟩)] W fun e W' =>
      (∃ v, e = .returned v) ∧ (J (uptoZ k) W' ∨ ∃ i, i ≤ k ∧ Jx (uptoZ i) W') := by
  refine callsIn_of_wp Tryz.func100 rfl trivial ?_ rfl
  simp only [Tryz.ntmps100, List.size_toArray, List.length_cons, List.length_nil, Nat.reduceAdd, Nat.reduceSub, Array.replicate_succ, Array.replicate_zero, List.push_toArray, List.append_toArray, List.nil_append, List.cons_append]
  by_cases h1 : (k : Int) < 1
  · gi_wp2
    refine bodyPost_ret (results_none rfl _ _ _) rfl ?_
    have : k = 0 := by omega
    subst this
    exact ⟨⟨_, rfl⟩, .inl (by simpa [uptoZ] using h0)⟩
  · have hk0 : (k : Int) ≠ 0 := by omega
    have c1' := c1 W h0
    gi_wp2
    refine ⟨trivial, fun e => by simp [Fence.wide] at e, c1'.mono ?_⟩
    clear c1'
    rintro e W1 (⟨rfl, hJ1⟩ | ⟨rfl, i, _, hi, hJ1⟩)
    · have c2' := c2 W1 hJ1
      gi_wp2
      refine ⟨trivial, fun e => by simp [Fence.wide] at e, c2'.mono ?_⟩
      clear c2'
      rintro e W2 ⟨rfl, hJ2⟩
      gi_wp2
      refine bodyPost_end (results_none rfl _ _ _) rfl ?_
      exact ⟨⟨_, rfl⟩, .inl hJ2⟩
    · gi_wp2
      refine bodyPost_end (results_none rfl _ _ _) rfl ?_
      exact ⟨⟨_, rfl⟩, .inr ⟨i, hi, hJ1⟩⟩
/-- turn.Turn(k, 0): 0, .., k - 1. -/
theorem turn_stops (n k : Nat) (hk : k ≤ 1000000) (w : World) {bn bf : Nat} (h1 : w.cell? ⟨bn, 0, none⟩ = some (.int .i64 k)) (h2 : w.cell? ⟨bf, 0, none⟩ = some (.int .i64 0)) :
    SeqStopsK Fence.wide n Tryz.prog 100 #[.pointer (some ⟨bn, 0, none⟩), .pointer (some ⟨bf, 0, none⟩)] (fun x : Int => #[Value.int .i64 x]) (fun _ _ => True) (fun xs => xs = uptoZ k) (fun pre => ∃ i, i ≤ k ∧ pre = uptoZ i) k w := by
  intro l J Jx W hW hJ hJx hY h0
  have lt : ∀ {b : Nat} {v : Value}, w.cell? ⟨b, 0, none⟩ = some v → b < w.heap.size := fun h => World.block_lt_of_cell? w _ h
  have g1 := (hW.cell (p := ⟨bn, 0, none⟩) (lt h1)).trans h1
  have g2 := (hW.cell (p := ⟨bf, 0, none⟩) (lt h2)).trans h2
  refine (turn1_in n l k hk J Jx (fun W1 hJ1 => ?_) (fun W1 hJ1 => ?_) W g1 g2 h0).mono ?_
  · have := upTo_in (n - 1) l k hk [] J Jx (fun i W2 hi hj => YieldAt.any ((hY _ (i : Int) W2 hj (by simpa [uptoZ_len] using hi)).mono fun e W' h => by
      rcases h with ⟨a, b, _⟩ | ⟨a, b⟩
      · exact .inl ⟨a, by rw [uptoZ_succ]; simpa using b⟩
      · exact .inr ⟨a, by rw [uptoZ_succ]; simpa using b⟩)) W1 hJ1
    simpa using this
  · refine (upTo_in (n - 1) l 0 (by omega) (uptoZ k) J Jx (fun i _ hi => absurd hi (by omega)) W1 hJ1).mono ?_
    rintro e W' (⟨rfl, h⟩ | ⟨_, i, hi, hi', _⟩)
    · exact ⟨rfl, by simpa [uptoZ] using h⟩
    · omega
  · rintro e W' ⟨a, b | ⟨i, hi, b⟩⟩
    · exact ⟨a, .inl ⟨_, rfl, b⟩⟩
    · exact ⟨a, .inr ⟨_, ⟨i, hi, rfl⟩, b⟩⟩
theorem turn_in (n : Nat) (a b : Int) (w : World) : CallsIn Fence.wide n Tryz.prog 61 #[.int .i64 a, .int .i64 b] w fun e w' =>
    e = .returned (.func (.func 100) #[] #[.pointer (some ⟨w.heap.size, 0, none⟩), .pointer (some ⟨w.heap.size + 1, 0, none⟩)]) ∧ w' = (w.alloc (.cells #[.int .i64 a] 3)).alloc (.cells #[.int .i64 b] 3) := by
  refine callsIn_of_wp Tryz.func61 rfl trivial ?_ rfl
  simp only [Tryz.ntmps61, List.size_toArray, List.length_cons, List.length_nil, Nat.reduceAdd, Nat.reduceSub, Array.replicate_succ, Array.replicate_zero, List.push_toArray, List.append_toArray, List.nil_append, List.cons_append]
  gi_wp2
  go_ret
  exact ⟨rfl, by simp⟩
end Go.Proofs.YtgkmcnafkhdlnaaGreat
/- The executor is right in a round of a range over a function, too. -/
set_option linter.unusedSimpArgs false
set_option linter.unusedVariables false
namespace Go.Proofs.YtgkmcnafkhdlnaaGreat
open Go Go.RowKit
/-- All may be called, in a round of loop l. -/
abbrev FR (l : Nat) : Fence := Fence.wide.inRound l
def Oper.noDf (o : Oper) : Bool := match o.op with
  | .defer _ => false
  | _ => true
def noDf : Code → Bool
  | .region _ ops _ => ops.all Oper.noDf
  | .seq x y => noDf x && noDf y
  | .cond _ x y => noDf x && noDf y
  | .block _ x => noDf x
  | .loop x => noDf x
  | _ => true
section
variable {P : Program} {wr : Bool} {V0 : View} {w0 : World} {l n : Nat} {ops : Array Oper} {Q : Exit → Act → World → Prop}
theorem Oper.noDf_ne {o : Oper} (h : Oper.noDf o = true) (c) : o.op ≠ .defer c := fun e => by unfold Oper.noDf at h; rw [e] at h; cases h
theorem callsR {m : Nat} {f : FuncId} {args : Array Value} {w : World} {R : Ending → World → Prop} (h : Calls P f args w R) : CallsIn (FR l) m P f args w R := CallsIn.inRound l (callsIn_wide.2 h)
theorem rowsR {m : Nat} {row : String} {args : Array Value} {w : World} {R : Value → World → Prop} (h : Rows P row args w R) : RowsIn (FR l) m P row args w R :=
  fun c cs _ => let ⟨v, w', r, s⟩ := h c cs; ⟨v, w', r, stepsIn_wide.2 s⟩
theorem wpR {o : Oper} {a : Act} {w : World} {K : Act → World → Prop} (hd : Oper.noDf o = true) (h : o.wp P a w K Q) : o.wpIn (FR l) n P a w K Q := by
  refine ⟨fun _ _ => trivial, ?_⟩
  show o.uponIn (FR l) n P a K Q ((o.semAt (some l) a.eval).run P w)
  rw [Oper.semAt_some l _ o (Oper.noDf_ne hd)]
  unfold Oper.wp at h
  generalize (execOp a.eval o).run P w = r at *
  cases r with
  | ok x w' =>
    cases x <;> simp only [Oper.upon, Oper.uponIn] at h ⊢ <;> first
      | exact h
      | exact ⟨fun e => by simp [Fence.wide] at e, callsR h⟩
      | exact ⟨fun e => by simp [Fence.wide] at e, rowsR h⟩
      | exact h.elim
  | halt x w' => cases x <;> simp only [Oper.upon, Oper.uponIn] at h ⊢ <;> first
      | exact h
      | exact h.elim
theorem wpOpR {i : Nat} {a : Act} {w : World} {K : Act → World → Prop} (hd : ops.all Oper.noDf = true) (hQ : ¬ LetsOut Q) (h : wpOp P ops Q i K a w) : wpOpIn (FR l) n P ops Q i K a w := by
  unfold wpOp at h
  unfold wpOpIn
  cases ho : ops[i]? with
  | none => rw [ho] at h; exact h
  | some o =>
    rw [ho] at h
    simp only at h ⊢
    have hdo : Oper.noDf o = true := by
      obtain ⟨hi, rfl⟩ := Array.getElem?_eq_some_iff.1 ho
      exact Array.all_eq_true.1 hd i hi
    split
    · rename_i hw
      rw [if_pos hw] at h
      exact wpR hdo (h.resolve_right fun e => hQ e.2)
    · rename_i hw
      rw [if_neg hw] at h
      exact ⟨fun _ _ => trivial, h⟩
theorem wpOpsR (hd : ops.all Oper.noDf = true) (hQ : ¬ LetsOut Q) : ∀ (is : List Nat) (a : Act) (w : World), wpOps P ops Q is a w → wpOpsIn (FR l) n P ops Q is a w
  | [], _, _, h => h
  | i :: is, a, w, h => by
    rw [wpOps_cons] at h
    rw [wpOpsIn_cons]
    exact wpOpIn_mono (fun a w => wpOpsR hd hQ is a w) (wpOpR hd hQ h)
theorem wpAnyR {md : Region.Mode} (hd : ops.all Oper.noDf = true) (hQ : ¬ LetsOut Q) : ∀ (fuel : Nat) (listed : Array Bool) (a : Act) (w : World), wpAny P md ops Q fuel listed a w → wpAnyIn (FR l) n P md ops Q fuel listed a w
  | 0, _, _, _, h => h
  | fuel + 1, _, a, w, h => ⟨h.1, fun i hi => wpOpIn_mono (fun a w => wpAnyR hd hQ fuel _ a w) (wpOpR hd hQ (h.2 i hi))⟩
theorem QofX_out [DrK] {st : St} {C : Ex → St → View → Prop} : ¬ LetsOut (QofX V0 w0 st C) := fun ⟨_, _, h⟩ => h
/-- Rounds, until one leaves. -/
def LoopR (l n : Nat) (P : Program) (c : Code) (Q : Exit → Act → World → Prop) (a : Act) (w : World) : Prop :=
  ∀ (b : Frame) (k : List Item) (cs : List Frame), b.roundOf = some l → ∃ e a' w', Q e a' w' ∧ ArrivesIn (Machine.fenced P (FR l)) P (lone (b.atR a (.code c :: .inLoop c :: k)) cs w) b k cs e a' w'
theorem roomR (l m : Nat) : (FR l).room m := fun _ h => by cases h
theorem LoopR.wp {c : Code} {a : Act} {w : World} (h : LoopR l n P c Q a w) : (Code.loop c).wpIn (FR l) n P Q a w := fun b k cs hro hb hr =>
  let ⟨e, a', w', hq, harr⟩ := h b k cs hro
  ⟨e, a', w', hq, .of_steps (.one (fenced_calm hb hr rfl) stepR_loop) harr⟩
theorem LoopR.round {c : Code} {a : Act} {w : World} (h : c.wpIn (FR l) n P (Exit.then (LoopR l n P c Q) Q) a w) : LoopR l n P c Q a w := by
  intro b k cs hro
  have hr : (FR l).room (cs.length + 1 + n) := roomR _ _
  have hb : (FR l).fn b.fn := trivial
  obtain ⟨e, a₁, w₁, hq, harr⟩ := h b (.inLoop c :: k) cs hro hb hr
  cases e with
  | normal =>
    obtain ⟨e₂, a₂, w₂, hq₂, harr₂⟩ := hq b k cs hro
    exact ⟨e₂, a₂, w₂, hq₂, .of_steps (StepsIn.trans harr (.one (fenced_calm hb hr rfl) stepR_inLoop)) harr₂⟩
  | exit id => exact ⟨_, a₁, w₁, hq, .pass (x := .inLoop c) rfl (fun _ _ => .inl (by simp)) harr⟩
  | goto l => exact ⟨_, a₁, w₁, hq, .pass (x := .inLoop c) rfl (fun _ _ => .inl (by simp)) harr⟩
  | ret => exact ⟨_, a₁, w₁, hq, .pass (x := .inLoop c) rfl (fun _ _ => .inl (by simp)) harr⟩
  | panic ch => exact ⟨_, a₁, w₁, hq, .pass (x := .inLoop c) rfl (fun _ _ => .inl (by simp)) harr⟩
  | outgrown => exact ⟨_, a₁, w₁, hq, .pass (x := .inLoop c) rfl (fun _ _ => .inl (by simp)) harr⟩
theorem X_soundR [DrK] (l n : Nat) (hm : P.follows .mixedOrders = true) : ∀ (ac : AC) (c : Code) (st : St) (V : View) (C : Ex → St → View → Prop) (a : Act) (w : World), noDf c = true → AgrB st a → Inv V0 w0 V w st.boxes → X P wr ac c st V C → c.wpIn (FR l) n P (QofX V0 w0 st C) a w := by
  intro ac
  induction ac with
  | leaf =>
    intro c st V C a w hnd ha hi h
    cases c <;> first
      | exact h.elim
      | exact wpIn_skip ⟨st, V, ha, hi, StRel.refl _, h⟩
      | exact wpIn_exit ⟨st, V, ha, hi, StRel.refl _, h⟩
      | exact wpIn_ret ⟨st, V, ha, hi, StRel.refl _, h⟩
  | reg ra =>
    intro c st V C a w hnd ha hi h
    cases c with
    | region id ops draw =>
      unfold X at h
      simp only [St.force_eq] at h
      obtain ⟨K, h, hK⟩ := joinX_ok (V0 := V0) (w0 := w0) h ha
      have hQ : ∀ a' w', Ends V0 w0 st (fun st' V' => K (st.ended st') V') a' w' → QofX V0 w0 st C .normal a' w' := by
        rintro a' w' ⟨st', V', h1, h2, h3, h4⟩
        obtain ⟨h5, h6⟩ := ended_ok ha h1 h3
        exact hK _ _ ⟨_, V', h5, h2, h6, h4⟩
      have draws : ∀ (S : View), drOk P ops ra.sched → (ra.held = false → ∀ i, S.see i = none) → S.Sees w → runT P wr ops ra (some st.boxes) (some S) ra.sched st V (fun st' V' => K (st.ended st') V') → (Code.region id ops true).wpIn (FR l) n P (QofX V0 w0 st C) a w := by
        intro S hd hheld hsees h
        unfold drOk at hd
        split at hd
        · rename_i hd1
          simp only [Bool.and_eq_true, beq_iff_eq] at hd1
          obtain ⟨⟨hs, hd2⟩, hlen⟩ := hd1
          refine wpIn_region_any hm (wpAnyR hnd QofX_out _ _ _ _ (wpAny_of_E (bx0 := st.boxes) (E := eOf P ops) _ S _ _ _ ?_))
          have hi1 : Inv V0 w0 V { w with drawn := w.drawn + 1 } st.boxes := ⟨⟨hi.isIn.size, hi.isIn.see, hi.isIn.out⟩, ⟨hi.fr.size, hi.fr.hid, fun x => Nat.le_trans (hi.fr.drawn x) (Nat.le_succ _)⟩, ⟨hi.boxes.lo, hi.boxes.shut, hi.boxes.ne⟩⟩
          have key := (runT_draw hs hQ (fun _ _ _ h => h) ra.sched).1 S hheld (Array.replicate ops.size false) false st V a _ hd2 (by
            intro j o ho hj
            exfalso
            rw [Array.getD_eq_getD_getElem?] at hj
            simp only [Array.getElem?_replicate] at hj
            split at hj <;> simp at hj) ha.agr hi1 (StRel.refl _) (BxRel.refl _) (fun _ => ⟨hsees, hi1.good.shut⟩) h
          rw [hlen] at key
          exact key
        · exact hd.elim
      cases draw with
      | false => exact wpIn_region (wpOpsR hnd QofX_out _ _ _ (runX_seq hQ (List.range ops.size) st V a w ha.agr hi (StRel.refl _) h))
      | true =>
        cases hh : ra.held with
        | true =>
          rw [hh] at h
          obtain ⟨hd, S, hle, h⟩ := h
          exact draws S hd (fun e => by rw [hh] at e; cases e) (fun i o hs => hi.isIn.see i o (hle.see i o hs)) h
        | false =>
          rw [hh] at h
          obtain ⟨hd, h⟩ := h
          exact draws V.nil hd (fun _ _ => rfl) (fun i o hs => by cases hs) h
    | _ => exact h.elim
  | regn ra news =>
    intro c st V C a w hnd ha hi h
    cases c with
    | region id ops draw =>
      unfold X at h
      simp only [St.force_eq] at h
      obtain ⟨K, h, hK⟩ := joinN_ok (V0 := V0) (w0 := w0) h ha
      have hQ : ∀ a' w', Ends V0 w0 st (fun st' V' => K (st.ended st') V') a' w' → QofX V0 w0 st C .normal a' w' := by
        rintro a' w' ⟨st', V', h1, h2, h3, h4⟩
        obtain ⟨h5, h6⟩ := ended_ok ha h1 h3
        exact hK _ _ ⟨_, V', h5, h2, h6, h4⟩
      have draws : ∀ (S : View), drOk P ops ra.sched → (ra.held = false → ∀ i, S.see i = none) → S.Sees w → runT P wr ops ra (some st.boxes) (some S) ra.sched st V (fun st' V' => K (st.ended st') V') → (Code.region id ops true).wpIn (FR l) n P (QofX V0 w0 st C) a w := by
        intro S hd hheld hsees h
        unfold drOk at hd
        split at hd
        · rename_i hd1
          simp only [Bool.and_eq_true, beq_iff_eq] at hd1
          obtain ⟨⟨hs, hd2⟩, hlen⟩ := hd1
          refine wpIn_region_any hm (wpAnyR hnd QofX_out _ _ _ _ (wpAny_of_E (bx0 := st.boxes) (E := eOf P ops) _ S _ _ _ ?_))
          have hi1 : Inv V0 w0 V { w with drawn := w.drawn + 1 } st.boxes := ⟨⟨hi.isIn.size, hi.isIn.see, hi.isIn.out⟩, ⟨hi.fr.size, hi.fr.hid, fun x => Nat.le_trans (hi.fr.drawn x) (Nat.le_succ _)⟩, ⟨hi.boxes.lo, hi.boxes.shut, hi.boxes.ne⟩⟩
          have key := (runT_draw hs hQ (fun _ _ _ h => h) ra.sched).1 S hheld (Array.replicate ops.size false) false st V a _ hd2 (by
            intro j o ho hj
            exfalso
            rw [Array.getD_eq_getD_getElem?] at hj
            simp only [Array.getElem?_replicate] at hj
            split at hj <;> simp at hj) ha.agr hi1 (StRel.refl _) (BxRel.refl _) (fun _ => ⟨hsees, hi1.good.shut⟩) h
          rw [hlen] at key
          exact key
        · exact hd.elim
      cases draw with
      | false => exact wpIn_region (wpOpsR hnd QofX_out _ _ _ (runX_seq hQ (List.range ops.size) st V a w ha.agr hi (StRel.refl _) h))
      | true =>
        cases hh : ra.held with
        | true =>
          rw [hh] at h
          obtain ⟨hd, S, hle, h⟩ := h
          exact draws S hd (fun e => by rw [hh] at e; cases e) (fun i o hs => hi.isIn.see i o (hle.see i o hs)) h
        | false =>
          rw [hh] at h
          obtain ⟨hd, h⟩ := h
          exact draws V.nil hd (fun _ _ => rfl) (fun i o hs => by cases hs) h
    | _ => exact h.elim
  | seq x y ihx ihy =>
    intro c st V C a w hnd ha hi h
    cases c with
    | seq cx cy =>
      obtain ⟨HX, HY⟩ : noDf cx = true ∧ noDf cy = true := by simpa [noDf] using hnd
      unfold X at h
      refine wpIn_seq (wpIn_mono (ihx cx st V _ a w HX ha hi h) fun e a' w' hq => ?_)
      cases e with
      | normal =>
        obtain ⟨st', V', h1, h2, h3, h4⟩ := hq
        exact wpIn_mono (ihy cy st' V' C a' w' HY h1 h2 h4) fun e a'' w'' hq' => by
          cases e <;> first
            | exact EndsB.mono hq' h3 (fun _ _ h => h)
            | exact hq'
      | _ => exact hq
    | _ => exact h.elim
  | cond j x y ihx ihy =>
    intro c st V C a w hnd ha hi h
    cases c with
    | cond cc cx cy =>
      obtain ⟨HX, HY⟩ : noDf cx = true ∧ noDf cy = true := by simpa [noDf] using hnd
      unfold X at h
      split at h
      · rename_i g hg
        have hev := ha.agr.rv (Hold.nil st.gam) cc _ hg
        simp only [RV.val] at hev
        obtain ⟨K, h, hK⟩ := joinX_ok (V0 := V0) (w0 := w0) h ha
        refine wpIn_cond_split hev (fun ht => ?_) (fun hf => ?_)
        · subst ht
          refine wpIn_mono (ihx cx st V _ a w HX ha hi h) fun e a' w' hq => ?_
          cases e <;> first
            | exact hK _ _ hq
            | exact hq
        · subst hf
          refine wpIn_mono (ihy cy st V _ a w HY ha hi h) fun e a' w' hq => ?_
          cases e <;> first
            | exact hK _ _ hq
            | exact hq
      · exact h.elim
    | _ => exact h.elim
  | block j x ihx =>
    intro c st V C a w hnd ha hi h
    cases c with
    | block id cx =>
      have HX : noDf cx = true := hnd
      unfold X at h
      obtain ⟨K, h, hK⟩ := joinX_ok (V0 := V0) (w0 := w0) h ha
      refine wpIn_block (wpIn_mono (ihx cx st V _ a w HX ha hi h) fun e a' w' hq => ?_)
      cases e with
      | normal => exact hK _ _ hq
      | exit i =>
        simp only [Exit.inBlock]
        by_cases hid : i = id
        · subst hid
          rw [if_pos rfl]
          refine hK _ _ (EndsB.mono hq (StRel.refl _) fun st' V' h' => ?_)
          simpa using h'
        · rw [if_neg hid]
          refine EndsB.mono hq (StRel.refl _) fun st' V' h' => ?_
          have : (i == id) = false := by simpa using hid
          simpa [this] using h'
      | _ => exact hq
    | _ => exact h.elim
  | loop ss x ihx =>
    intro c st V C a w hnd ha hi h
    cases c with
    | loop cx =>
      have HX : noDf cx = true := hnd
      unfold X at h
      split at h
      · rename_i s hrd
        have h0 := write_ok (base := st) (st1 := st) ha.gam ha.kn ha.base rfl rfl (fun _ _ => rfl) (fun _ _ => rfl) (BxRel.refl _) ha hi (StRel.refl _) (by unfold SS.same; simp [sameS_refl, sameB_refl]) hrd
        refine LoopR.wp ?_
        refine h (fun s V => ∀ a w, AgrB (ss.write st s) a → Inv V0 w0 V w (ss.write st s).boxes → LoopR l n P cx (QofX V0 w0 st C) a w) ?_ a w h0.1 h0.2
        rintro s V ⟨R, hR, hF⟩ a w ha1 hi1
        rw [uncF_curF, SS.writeK_eq] at hF
        refine LoopR.round (wpIn_mono (ihx cx (ss.write st s) V _ a w HX ha1 hi1 hF) fun e a' w' hq => ?_)
        have hW := write_wrote ss st s
        cases e with
        | normal =>
          obtain ⟨st', V', h1, h2, h3, h4⟩ := hq
          simp only at h4
          unfold SS.again at h4
          split at h4
          · rename_i s' hs hrd'
            rw [unc_cur] at h4
            have h5 := write_ok (base := st) (st1 := ss.write st s) ha.gam ha.kn ha.base hW.rel.len.symm hW.blen.symm (fun t ht => hW.keep t ht) (fun i hi => hW.bkeep i hi) hW.rel.boxes h1 h2 h3 hs hrd'
            exact hR s' V' h4 a' w' h5.1 h5.2
          · exact h4.elim
        | exit id => exact EndsB.mono hq hW.rel (fun _ _ h => h)
        | ret => exact EndsB.mono hq hW.rel (fun _ _ h => h)
        | _ => exact hq
      · exact h.elim
    | _ => exact h.elim
end
/-- The first range over a function in code. -/
def rfOf : Code → Option (Operand × Array Tmp × Code × Code)
  | .rangeFunc g ps a c => some (g, ps, a, c)
  | .seq x y => match rfOf x with
    | some r => some r
    | none => rfOf y
  | .cond _ x y => match rfOf x with
    | some r => some r
    | none => rfOf y
  | .block _ x => rfOf x
  | .loop x => rfOf x
  | _ => none
def rfBody (f : Func) : Code := match f.body with
  | some c => match rfOf c with
    | some r => r.2.2.2
    | none => .skip
  | none => .skip
def rfQ (Q : View → Prop) (e : Ex) (V : View) : Prop := match e with
  | .normal => Q V
  | _ => False
end Go.Proofs.YtgkmcnafkhdlnaaGreat
/- What the executor asks of the body of a range over a function, written out. (Printed by rf.py.) -/
set_option maxRecDepth 100000
set_option linter.unusedVariables false
namespace Go.Proofs.YtgkmcnafkhdlnaaGreat
open Go
variable [DrK]
def r21_n (u : Nat → Value) (b4 : Addr) (b5 : Addr) (b7 : Addr) (b8 : Int) (V : View) (Q : View → Prop) : Prop :=
    joinP [] (fun (J : CurP []) => True ∧ ∃ (S : View), View.Le S V ∧ ∃ (x : Option Addr), View.cell? S b7 = some (Value.pointer x) ∧ ∃ (x_1 : Option Addr), View.cell? S b7 = some (Value.pointer x_1) ∧ ∃ (a : Addr), x_1 = some a ∧ ∃ (x_2 : Sl), View.cell? S (Addr.add a (0 : Nat)) = some (Value.slice (Sl.a x_2) (Sl.n x_2) (Sl.c x_2)) ∧ ∃ (x_3 : Sl), View.cell? S b5 = some (Value.slice (Sl.a x_3) (Sl.n x_3) (Sl.c x_3)) ∧ ∃ (x_4 : Int), View.cell? S b4 = some (Value.int IntKind.i64 x_4) ∧ (CallV Tryz.prog (62 : Nat) (Array.mk [Value.slice (Sl.a x_3) (Sl.n x_3) (Sl.c x_3), Value.int IntKind.i64 b8]) V fun (r : Value) (V : View) => ∃ (x_5 : Bool), r = Value.bool x_5 ∧ View.Le S V ∧ (0 : Int) ≤ x_4 ∧ x_4 ≤ x_4 ∧ x_4 * (↑(TypeInfo.bytes (Tables.types (Program.toTables Tryz.prog))[(24 : Nat)]) : Int) ≤ (140737488355328 : Int) ∧ x_4 ≤ (140737488355328 : Int) ∧ newB V (Obj.cells (Array.mk (List.flatten (List.replicate (Int.toNat x_4) [Value.slice none (0 : Nat) (0 : Nat)]))) (24 : Nat)) fun (r : Nat) (V : View) => View.Le S V ∧ newB V (Obj.cells (Array.mk (putL [Value.bool false, Value.int IntKind.i64 (0 : Int), Value.int IntKind.i64 (0 : Int), Value.slice none (0 : Nat) (0 : Nat)] (0 : Nat) [Value.bool x_5, Value.int IntKind.i64 (0 : Int), Value.int IntKind.i64 (0 : Int), Value.slice (some (Addr.mk r (0 : Nat) none)) (Int.toNat x_4) (Int.toNat x_4)])) (95 : Nat)) fun (r : Nat) (V : View) => View.Le S V ∧ apV V (95 : Nat) (4 : Nat) (48 : Nat) [Value.bool false, Value.int IntKind.i64 (0 : Int), Value.int IntKind.i64 (0 : Int), Value.slice none (0 : Nat) (0 : Nat)] (Sl.mk (Sl.a x_2) (Sl.n x_2) (Sl.c x_2)) (Value.slice (some (Addr.mk r (0 : Nat) none)) (1 : Nat) (1 : Nat)) fun (s : Sl) (V : View) => View.Le S V ∧ ∃ (a : Addr), x = some a ∧ canSet V (Addr.add a (0 : Nat)) (nat_lit 1) ∧ J (View.sets V (Addr.add a (0 : Nat)) [Value.slice (Sl.a s) (Sl.n s) (Sl.c s)])) ∧ (0 : Int) ≤ x_4 ∧ x_4 ≤ x_4 ∧ x_4 * (↑(TypeInfo.bytes (Tables.types (Program.toTables Tryz.prog))[(24 : Nat)]) : Int) ≤ (140737488355328 : Int) ∧ x_4 ≤ (140737488355328 : Int) ∧ newB V (Obj.cells (Array.mk (List.flatten (List.replicate (Int.toNat x_4) [Value.slice none (0 : Nat) (0 : Nat)]))) (24 : Nat)) fun (r : Nat) (V : View) => View.Le S V ∧ CallV Tryz.prog (62 : Nat) (Array.mk [Value.slice (Sl.a x_3) (Sl.n x_3) (Sl.c x_3), Value.int IntKind.i64 b8]) V fun (r_1 : Value) (V : View) => ∃ (x_5 : Bool), r_1 = Value.bool x_5 ∧ View.Le S V ∧ newB V (Obj.cells (Array.mk (putL [Value.bool false, Value.int IntKind.i64 (0 : Int), Value.int IntKind.i64 (0 : Int), Value.slice none (0 : Nat) (0 : Nat)] (0 : Nat) [Value.bool x_5, Value.int IntKind.i64 (0 : Int), Value.int IntKind.i64 (0 : Int), Value.slice (some (Addr.mk r (0 : Nat) none)) (Int.toNat x_4) (Int.toNat x_4)])) (95 : Nat)) fun (r : Nat) (V : View) => View.Le S V ∧ apV V (95 : Nat) (4 : Nat) (48 : Nat) [Value.bool false, Value.int IntKind.i64 (0 : Int), Value.int IntKind.i64 (0 : Int), Value.slice none (0 : Nat) (0 : Nat)] (Sl.mk (Sl.a x_2) (Sl.n x_2) (Sl.c x_2)) (Value.slice (some (Addr.mk r (0 : Nat) none)) (1 : Nat) (1 : Nat)) fun (s : Sl) (V : View) => View.Le S V ∧ ∃ (a : Addr), x = some a ∧ canSet V (Addr.add a (0 : Nat)) (nat_lit 1) ∧ J (View.sets V (Addr.add a (0 : Nat)) [Value.slice (Sl.a s) (Sl.n s) (Sl.c s)])) fun (V : View) => Q V
def r21_ac : AC := (.block none (.reg ⟨(.fl 0 (.fl 1 (.fl 2 (.fl 3 (.fl 4 (.fl 5 (.fl 6 (.fl 8 (.alt 7 true false (.alt 9 true false (.fl 10 (.alt 11 true false (.alt 12 true false (.fl 13 (.fl 14 (.alt 15 false false .done .no))) .no) .no)) .no) (.alt 9 true false (.alt 7 true false (.fl 10 (.alt 11 true false (.alt 12 true false (.fl 13 (.fl 14 (.alt 15 false false .done .no))) .no) .no)) .no) .no)))))))))), true, [], [], (some ⟨[29, 30, 31, 32, 33, 34, 35, 36, 37, 38, 39, 40, 41, 42, 43], [], []⟩)⟩))
theorem r21_x {u : Nat → Value} {b4 : Addr} {b5 : Addr} {b7 : Addr} {b8 : Int} {V : View} {Q : View → Prop} (h : r21_n u b4 b5 b7 b8 V Q) : X Tryz.prog false (r21_ac) (rfBody Tryz.f21) (startX [u 0, u 1, u 2, u 3, .pointer (some b4), .pointer (some b5), u 6, .pointer (some b7), .int .i64 b8, u 9, u 10, u 11, u 12, u 13, u 14, u 15, u 16, u 17, u 18, u 19, u 20, u 21, u 22, u 23, u 24, u 25, u 26, u 27, u 28, u 29, u 30, u 31, u 32, u 33, u 34, u 35, u 36, u 37, u 38, u 39, u 40, u 41, u 42, u 43, u 44] 45) V (fun e _ V => rfQ Q e V) :=
  Eq.mp (show r21_n u b4 b5 b7 b8 V Q = X Tryz.prog false (r21_ac) (rfBody Tryz.f21) (startX [u 0, u 1, u 2, u 3, .pointer (some b4), .pointer (some b5), u 6, .pointer (some b7), .int .i64 b8, u 9, u 10, u 11, u 12, u 13, u 14, u 15, u 16, u 17, u 18, u 19, u 20, u 21, u 22, u 23, u 24, u 25, u 26, u 27, u 28, u 29, u 30, u 31, u 32, u 33, u 34, u 35, u 36, u 37, u 38, u 39, u 40, u 41, u 42, u 43, u 44] 45) V (fun e _ V => rfQ Q e V) from by kernel_rfl) h
end Go.Proofs.YtgkmcnafkhdlnaaGreat
/- chip.New: a round. -/
namespace Go.Proofs.YtgkmcnafkhdlnaaGreat
open Go
theorem indexI_ok {s : Sl} {l : List Int} {x : Int} {V : View} (h : SlR V s l) : CallV Tryz.prog 102 ⟨[.slice s.a s.n s.c, .int .i64 x]⟩ V fun r V' => (∃ i : Int, r = .int .i64 i ∧ decide (0 ≤ i) = decide (x ∈ l)) ∧ V' = V := by
  refine f102_x ?_
  unfold f102_n
  have hn := h.n
  have hlim := h.lim
  refine loop1 (k := .int .i64) (fun (i : Int) V' => ∃ j : Nat, i = j ∧ j ≤ l.length ∧ x ∉ l.take j ∧ V' = V) (fun (i : Int) _ => l.length - i.toNat) ⟨0, rfl, Nat.zero_le _, by simp, rfl⟩ ?_
  rintro (i : Int) V' ⟨j, rfl, hj, hx, rfl⟩
  refine br_intro (fun hlt => ?_) (fun hge => ?_)
  · have hlt : j < l.length := by have := of_decide_eq_true hlt; omega
    obtain ⟨ad, hl, ha, hc, hi⟩ := h.int (x := (j : Int)) (by omega) (by omega)
    refine ⟨by omega, by omega, ad, ha, _, hc, br_intro (fun he => ?_) (fun he => ?_)⟩
    · have he := of_decide_eq_true he
      refine ⟨⟨_, rfl, ?_⟩, rfl⟩
      rw [decide_eq_true (show (0 : Int) ≤ (j : Int) by omega), decide_eq_true (show x ∈ l by rw [he]; exact List.getElem_mem _)]
    · have he := of_decide_eq_false he
      refine ⟨inI64 (by omega) (by omega), ⟨j + 1, by omega, by omega, fun hm => ?_, rfl⟩, by omega⟩
      rw [List.take_add_one, List.getElem?_eq_getElem hlt, List.mem_append] at hm
      rcases hm with hm | hm
      · exact hx hm
      · simp at hm; exact he hm
  · have hge : l.length ≤ j := by have := of_decide_eq_false hge; omega
    rw [List.take_of_length_le hge] at hx
    exact ⟨⟨-1, rfl, by rw [decide_eq_false hx]; rfl⟩, rfl⟩
theorem containsI_ok {s : Sl} {l : List Int} {x : Int} {V : View} (h : SlR V s l) : CallV Tryz.prog 62 ⟨[.slice s.a s.n s.c, .int .i64 x]⟩ V fun r V' => r = .bool (decide (x ∈ l)) ∧ V' = V := by
  refine f62_x ?_
  unfold f62_n
  refine (indexI_ok h).mono ?_
  rintro r V1 ⟨⟨i, rfl, hi⟩, rfl⟩
  exact ⟨i, rfl, by rw [hi], rfl⟩
def blk0 (pages : Nat) (b : Bool) : Blk := ⟨b, 0, 0, List.replicate pages []⟩
/-- A chip on which nothing was programmed; the rows of pages stand in blocks .1, .2 is how the blocks are called. -/
def newC (pages : Nat) (bad : List Int) (q : List (Nat × Int)) : Chp := ⟨q.map fun p => (p.1, blk0 pages (decide (p.2 ∈ bad))), pages, 0, 0, 0, -1, -1, -1, 0, false⟩
open Classical in
/-- V; of blocks from N on those that are cells. -/
noncomputable def View.onlyC (V : View) (N : Nat) : View := ⟨V.size, fun i => match V.see i with
  | some o => if N ≤ i ∧ o.isCells = false then none else some o
  | none => none, V.out, fun i o h => by
    cases hs : V.see i with
    | none => rw [hs] at h; cases h
    | some o' => exact V.lt i o' hs⟩
theorem onlyC_le (V : View) (N : Nat) : (V.onlyC N).Le V := ⟨Nat.le_refl _, fun i o h => by
  unfold View.onlyC at h
  simp only at h
  cases hs : V.see i with
  | none => rw [hs] at h; cases h
  | some o' =>
    rw [hs] at h
    simp only at h
    split at h
    · cases h
    · exact h, rfl⟩
theorem onlyC_see {V : View} {N i : Nat} {o : Obj} (h : V.see i = some o) (ho : i < N ∨ o.isCells = true) : (V.onlyC N).see i = some o := by
  unfold View.onlyC
  simp only [h]
  rw [if_neg]
  rintro ⟨a, b⟩
  rcases ho with ho | ho
  · omega
  · rw [ho] at b; cases b
theorem onlyC_cells {V : View} {N i : Nat} {o : Obj} (hi : N ≤ i) (h : (V.onlyC N).see i = some o) : o.isCells = true := by
  unfold View.onlyC at h
  simp only at h
  cases hs : V.see i with
  | none => rw [hs] at h; cases h
  | some o' =>
    rw [hs] at h
    simp only at h
    split at h
    · cases h
    · rename_i hn
      cases h
      cases hc : o.isCells with
      | true => rfl
      | false => exact absurd ⟨hi, hc⟩ hn
/-- Between two rounds. B: the first block that the call made. -/
structure NewI (V : View) (B : Nat) (s : Sl) (bad : List Int) (pages : Nat) (V' : View) (x : Sl) (q : List (Nat × Int)) : Prop where
  le : V.Le (V'.minus x)
  b0 : (V'.minus x).see B = some (.cells ⟨[.int .i64 pages]⟩ 3 (0, 0))
  b1 : (V'.minus x).see (B + 1) = some (.cells ⟨[.slice s.a s.n s.c]⟩ 72 (0, 0))
  b3 : (V'.minus x).see (B + 3) = some (.cells ⟨[.pointer (some ⟨B + 2, 0, none⟩)]⟩ 47 (0, 0))
  box : (V'.minus x).see (B + 2) = some (.cells ⟨chpL x (newC pages bad q)⟩ 113 (0, 0))
  row : ∃ cs, Buf V' x 95 4 cs ∧ repL V cs (newC pages bad q).bl
  pgs : ∀ p ∈ q, (V'.minus x).see p.1 = some (.cells ⟨List.replicate pages (.slice none 0 0)⟩ 24 (0, 0)) ∧ p.1 ≠ B + 2 ∧ V.see p.1 = none
  nd : (q.map Prod.fst).Nodup
  len : q.length ≤ 64
theorem minus_see {V : View} {x : Sl} {i : Nat} (h : ∀ a, x.a = some a → a.block ≠ i) : (V.minus x).see i = V.see i := by
  unfold View.minus
  split
  · rfl
  · rename_i a ha; rw [hide_see, if_neg fun e => h a ha e.symm]
theorem minus_ne {V : View} {x : Sl} {i : Nat} {o : Obj} (h : (V.minus x).see i = some o) (a : Addr) (ha : x.a = some a) : a.block ≠ i := by
  rintro rfl
  unfold View.minus at h
  rw [ha] at h
  simp [hide_see] at h
theorem flat_one : ∀ n : Nat, (List.replicate n [Value.slice none 0 0]).flatten = List.replicate n (.slice none 0 0)
  | 0 => rfl
  | n + 1 => by rw [List.replicate_succ, List.replicate_succ, List.flatten_cons, flat_one n]; rfl
theorem bytes8 (h : 24 < Tryz.prog.toTables.types.size) : (Tryz.prog.toTables.types[24]'h).bytes = 24 := by kernel_rfl
theorem newR_ok {V V' : View} {B : Nat} {s x : Sl} {bad : List Int} {pages : Nat} {q : List (Nat × Int)} {u : Nat → Value} {i : Int} (hs : SlR V s bad) (hp : pages ≤ 32) (h : NewI V B s bad pages V' x q) (hq : q.length < 64) (hB : V.size ≤ B) :
    r21_n u ⟨B, 0, none⟩ ⟨B + 1, 0, none⟩ ⟨B + 3, 0, none⟩ i V' fun V2 => ∃ y p, NewI V B s bad pages V2 y (q ++ [(p, i)]) := by
  unfold r21_n
  obtain ⟨cs, hb, hr⟩ := h.row
  have hxn := hb.n_eq (α := Pb) hr
  have hxl : (newC pages bad q).bl.length = q.length := by simp [newC]
  have hxq : x.n = q.length := hxn.trans hxl
  have c0 : (V'.minus x).cell? ⟨B, 0, none⟩ = some (.int .i64 pages) := cell_of_see h.b0 rfl
  have c1 : (V'.minus x).cell? ⟨B + 1, 0, none⟩ = some (.slice s.a s.n s.c) := cell_of_see h.b1 rfl
  have c3 : (V'.minus x).cell? ⟨B + 3, 0, none⟩ = some (.pointer (some ⟨B + 2, 0, none⟩)) := cell_of_see h.b3 rfl
  have c2 : (V'.minus x).cell? ((⟨B + 2, 0, none⟩ : Addr).add 0) = some (.slice x.a x.n x.c) := bx h.box 0 rfl
  have hs' : SlR V' s bad := hs.mono (h.le.trans (View.minus_le _ _))
  -- the row of pages, the element, the append: the same whichever comes first
  have fin : ∀ (J : View → Prop), (∀ V2 y p, NewI V B s bad pages V2 y (q ++ [(p, i)]) → J V2) → ∀ r, V'.size ≤ r → ∀ r2, (V'.put r (.cells ⟨(List.replicate ((pages : Int)).toNat [Value.slice none 0 0]).flatten⟩ 24)).size ≤ r2 →
      apV ((V'.put r (.cells ⟨(List.replicate ((pages : Int)).toNat [Value.slice none 0 0]).flatten⟩ 24)).put r2 (.cells ⟨putL [.bool false, .int .i64 0, .int .i64 0, .slice none 0 0] 0 [.bool (decide (i ∈ bad)), .int .i64 0, .int .i64 0, .slice (some ⟨r, 0, none⟩) ((pages : Int)).toNat ((pages : Int)).toNat]⟩ 95)) 95 4 48
        [.bool false, .int .i64 0, .int .i64 0, .slice none 0 0] ⟨x.a, x.n, x.c⟩ (.slice (some ⟨r2, 0, none⟩) 1 1) fun y V2 => (V'.minus x).Le V2 ∧ ∃ a : Addr, some (⟨B + 2, 0, none⟩ : Addr) = some a ∧ canSet V2 (a.add 0) 1 ∧ J (V2.sets (a.add 0) [.slice y.a y.n y.c]) := by
    intro J hJ r hr1 r2 hr2
    rw [flat_one, Int.toNat_natCast] at *
    have hfr : V'.see r = none := View.see_none_of_ge hr1
    have hp1 := View.put_le (o := .cells ⟨List.replicate pages (.slice none 0 0)⟩ 24) hfr
    have hrz : r < (V'.put r (.cells ⟨List.replicate pages (.slice none 0 0)⟩ 24)).size := Nat.lt_of_lt_of_le (Nat.lt_succ_self _) (Nat.le_max_right _ _)
    generalize hW : V'.put r (.cells ⟨List.replicate pages (.slice none 0 0)⟩ 24) = W at *
    have hWr : W.see r = some (.cells ⟨List.replicate pages (.slice none 0 0)⟩ 24 (0, 0)) := by rw [← hW]; exact View.see_put_same _ _ _
    have hfr2 : W.see r2 = none := View.see_none_of_ge hr2
    refine apV_buf rfl ((hb.mono hp1).put hfr2) (src := [.bool (decide (i ∈ bad)), .int .i64 0, .int .i64 0, .slice (some ⟨r, 0, none⟩) pages pages]) (m := 1) ⟨rfl, rowAt_new (View.see_put_same _ _ _) rfl⟩ rfl rfl (by show (x.n + 1) * 48 ≤ _; omega) (by show x.n + 1 ≤ _; omega) fun y V2 hy hyn hle => ?_
    have hxr : ∀ a, x.a = some a → a.block ≠ r := by
      rintro a ha rfl
      rcases hb.own with ⟨hn, _⟩ | ⟨b, all, h1, h2, _⟩
      · rw [hn] at ha; cases ha
      · rw [h1] at ha; cases ha; rw [h2] at hfr; cases hfr
    have hleW : (V'.minus x).Le (V2.minus y) := (minus_mono hp1 x).trans ((put_minus_le hfr2).trans hle)
    have hbox := hleW.see _ _ h.box
    have hby : ∀ a, y.a = some a → a.block ≠ B + 2 := minus_ne hbox
    have hbox2 : V2.see (B + 2) = some (.cells ⟨chpL x (newC pages bad q)⟩ 113 (0, 0)) := (View.minus_le _ _).see _ _ hbox
    refine ⟨hleW.trans (View.minus_le _ _), _, rfl, bxc hbox2 0 1 (by simp [chpL]), hJ _ y r ?_⟩
    rw [bxe hbox2]
    have keep : ∀ {j : Nat} {o : Obj}, j ≠ B + 2 → (V2.minus y).see j = some o → ((V2.put (B + 2) (.cells ⟨putL (chpL x (newC pages bad q)) 0 [.slice y.a y.n y.c]⟩ 113 (0, 0))).minus y).see j = some o := fun {j o} hne hj => by
      have := minus_ne hj
      rw [minus_see this] at hj ⊢
      rw [View.see_put_ne _ _ hne]; exact hj
    have hrs : (V2.minus y).see r = some (.cells ⟨List.replicate pages (.slice none 0 0)⟩ 24 (0, 0)) := hle.see _ _ (by
      rw [minus_see hxr, View.see_put_ne _ _ (by omega)]; exact hWr)
    have hrB : r ≠ B + 2 := by
      rintro rfl
      have := (View.minus_le _ _).see _ _ h.box
      rw [hfr] at this; cases this
    have hVr : V.see r = none := by
      cases hv : V.see r with
      | none => rfl
      | some o => have := (h.le.trans (View.minus_le _ _)).see _ _ hv; rw [hfr] at this; cases this
    refine ⟨⟨?_, fun j o hj => keep ?_ ((h.le.trans hleW).see _ _ hj), ?_⟩, keep (by omega) (hleW.see _ _ h.b0), keep (by omega) (hleW.see _ _ h.b1), keep (by omega) (hleW.see _ _ h.b3), ?_, ⟨cs ++ [.bool (decide (i ∈ bad)), .int .i64 0, .int .i64 0, .slice (some ⟨r, 0, none⟩) pages pages], ?_, ?_⟩, ?_, ?_, ?_⟩
    · have h1 := (h.le.trans hleW).size
      have h2 : ∀ (Z : View) (y : Sl), (Z.minus y).size = Z.size := fun Z y => by unfold View.minus; split <;> rfl
      rw [h2] at h1 ⊢
      exact Nat.le_trans h1 (Nat.le_max_left _ _)
    · have := V.lt j o hj; omega
    · have h1 := (h.le.trans hleW).out
      have h2 : ∀ (Z : View) (y : Sl), (Z.minus y).out = Z.out := fun Z y => by unfold View.minus; split <;> rfl
      rw [h2] at h1 ⊢
      exact h1
    · rw [minus_see hby, View.see_put_same]; rfl
    · exact hy.see fun a o ha ho => by rw [View.see_put_ne _ _ (hby a ha)]; exact ho
    · have := hr.snoc (x := ((r, blk0 pages (decide (i ∈ bad))) : Pb)) (vs := [.bool (decide (i ∈ bad)), .int .i64 0, .int .i64 0, .slice (some ⟨r, 0, none⟩) pages pages]) ⟨by simp [blk0], inI64 (by simp [blk0]) (by simp [blk0]), inI64 (by simp [blk0]) (by simp [blk0])⟩
      simpa [newC] using this
    · intro p hp
      rcases List.mem_append.1 hp with hp | hp
      · obtain ⟨a, b, c⟩ := h.pgs p hp
        exact ⟨keep b (hleW.see _ _ a), b, c⟩
      · rw [List.mem_singleton] at hp
        subst hp
        exact ⟨keep hrB hrs, hrB, hVr⟩
    · rw [List.map_append, List.nodup_append]
      refine ⟨h.nd, by simp, ?_⟩
      intro a ha b hb' e
      simp at hb'
      subst hb' e
      obtain ⟨p, hp, rfl⟩ := List.mem_map.1 ha
      have := (View.minus_le _ _).see _ _ (h.pgs p hp).1
      rw [hfr] at this; cases this
    · simp; omega
  refine joinP_cut (fun _ V2 => ∃ y p, NewI V B s bad pages V2 y (q ++ [(p, i)])) ⟨trivial, V'.minus x, View.minus_le _ _, _, c3, _, c3, _, rfl, x, c2, s, c1, pages, c0, ?_, ?_⟩ (fun _ _ h => h)
  · refine (containsI_ok hs').mono ?_
    rintro r V1 ⟨rfl, rfl⟩
    refine ⟨_, rfl, View.minus_le _ _, by omega, by omega, ?_, by omega, fun r hr1 => ⟨(View.minus_le _ _).trans (View.put_le (View.see_none_of_ge hr1)), fun r2 hr2 => ⟨(View.minus_le _ _).trans ((View.put_le (View.see_none_of_ge hr1)).trans (View.put_le (View.see_none_of_ge hr2))), ?_⟩⟩⟩
    · exact Int.le_trans (Int.le_of_eq (congrArg (fun z : Nat => (pages : Int) * (z : Int)) (bytes8 _))) (by omega)
    · exact fin _ (fun V2 y p h => ⟨y, p, h⟩) r hr1 r2 hr2
  · refine ⟨by omega, by omega, ?_, by omega, fun r hr1 => ⟨(View.minus_le _ _).trans (View.put_le (View.see_none_of_ge hr1)), ?_⟩⟩
    · exact Int.le_trans (Int.le_of_eq (congrArg (fun z : Nat => (pages : Int) * (z : Int)) (bytes8 _))) (by omega)
    refine (containsI_ok (hs'.mono (View.put_le (View.see_none_of_ge hr1)))).mono ?_
    rintro r' V1 ⟨rfl, rfl⟩
    refine ⟨_, rfl, (View.minus_le _ _).trans (View.put_le (View.see_none_of_ge hr1)), fun r2 hr2 => ⟨(View.minus_le _ _).trans ((View.put_le (View.see_none_of_ge hr1)).trans (View.put_le (View.see_none_of_ge hr2))), ?_⟩⟩
    exact fin _ (fun V2 y p h => ⟨y, p, h⟩) r hr1 r2 hr2
end Go.Proofs.YtgkmcnafkhdlnaaGreat
/- chip.New. -/
namespace Go.Proofs.YtgkmcnafkhdlnaaGreat
open Go Go.RowKit Go.Shelf
attribute [local go_sem] Oper.semAt_some
theorem In_alloc {V : View} {w : World} (h : V.In w) (o : Obj) : V.In (w.alloc o) :=
  ⟨by rw [World.size_alloc]; exact Nat.le_succ_of_le h.size, fun i o' hi => (Below.heap_alloc w o i (Nat.lt_of_lt_of_le (V.lt i o' hi) h.size)).trans (h.see i o' hi), h.out⟩
theorem In_alloc_put {V : View} {w : World} (h : V.In w) (o : Obj) : (V.put w.heap.size o).In (w.alloc o) :=
  ⟨by rw [World.size_alloc]; have := h.size; show max V.size (w.heap.size + 1) ≤ _; omega, fun i o' hi => by
    by_cases e : i = w.heap.size
    · subst e; rw [View.see_put_same] at hi; cases hi; exact World.alloc_heap_new w o
    · rw [View.see_put_ne _ _ e] at hi; exact (In_alloc h o).see i o' hi, h.out⟩
theorem start_agr' {args : List Value} {n : Nat} (h : args.length = n) : AgrB (startX args n) { tmps := ⟨args⟩, defers := [] } := by
  have := @start_agr _ args n
  rw [h, Nat.sub_self] at this
  simpa using this
theorem Fr_alloc_put {V V' : View} {w W : World} (h : Fr V w V' W) (o : Obj) : Fr V w (V'.put W.heap.size o) (W.alloc o) :=
  ⟨by rw [World.size_alloc]; exact Nat.le_succ_of_le h.size, fun i hi hn => by
    have hne : i ≠ W.heap.size := fun e => by have := h.size; omega
    rw [View.see_put_ne _ _ hne]
    exact ⟨(h.hid i hi hn).1, (Below.heap_alloc W o i (Nat.lt_of_lt_of_le hi h.size)).trans (h.hid i hi hn).2⟩, fun e => h.drawn e⟩
/-- What the law of a range over a function may do to the heap leaves what is seen, if that is cells. -/
theorem In_grown {V : View} {W W' : World} {row : Option Nat} {N : Nat} (h : V.In W) (hc : ∀ i o, N ≤ i → V.see i = some o → o.isCells = true) (hg : W.grownBy W' row) (hr : ∀ r, row = some r → N ≤ r ∧ ∃ o : Obj, W.heap[r]? = some o ∧ o.isCells = false) : V.In W' :=
  ⟨Nat.le_trans h.size hg.size, fun i o hi => by
    refine (hg.block i (Nat.lt_of_lt_of_le (V.lt i o hi) h.size) fun e => ?_).trans (h.see i o hi)
    obtain ⟨h1, o', h2, h3⟩ := hr i e.symm
    rw [h.see i o hi] at h2
    cases h2
    rw [hc i o h1 hi] at h3
    exact absurd h3 (by simp), by
    have := h.out
    unfold World.outer at *
    rw [hg.os, hg.tape, hg.output]; exact this⟩
theorem Fr_grown {V V' : View} {w W W' : World} {row : Option Nat} (h : Fr V w V' W) (hg : W.grownBy W' row) (hr : ∀ r, row = some r → w.heap.size ≤ r) : Fr V w V' W' :=
  ⟨Nat.le_trans h.size hg.size, fun i hi hn => ⟨(h.hid i hi hn).1, (hg.block i (Nat.lt_of_lt_of_le hi h.size) fun e => by have := hr i e.symm; omega).trans (h.hid i hi hn).2⟩, fun e => e.elim⟩
theorem Fr_only {V V' : View} {w W : World} (h : Fr V w V' W) (N : Nat) : Fr V w (V'.onlyC N) W :=
  ⟨h.size, fun i hi hn => ⟨by
    cases hs : (V'.onlyC N).see i with
    | none => rfl
    | some o => exact absurd ((h.hid i hi hn).1.symm.trans ((onlyC_le V' N).see _ _ hs)) (by simp), (h.hid i hi hn).2⟩, h.drawn⟩
theorem minus_only {V : View} {N : Nat} {x : Sl} {i : Nat} {o : Obj} (h : (V.minus x).see i = some o) (ho : i < N ∨ o.isCells = true) : ((V.onlyC N).minus x).see i = some o := by
  have hne := minus_ne h
  rw [minus_see hne] at h ⊢
  exact onlyC_see h ho
theorem NewI.only {V V' : View} {B N pages : Nat} {s x : Sl} {bad : List Int} {q : List (Nat × Int)} (h : NewI V B s bad pages V' x q) (hN : V.size ≤ N) : NewI V B s bad pages (V'.onlyC N) x q := by
  obtain ⟨cs, h1, h2⟩ := h.row
  refine ⟨⟨?_, fun i o hi => minus_only (h.le.see i o hi) (.inl (by have := V.lt i o hi; omega)), ?_⟩, minus_only h.b0 (.inr rfl), minus_only h.b1 (.inr rfl), minus_only h.b3 (.inr rfl), minus_only h.box (.inr rfl), ⟨cs, ?_, h2⟩, fun p hp => ?_, h.nd, h.len⟩
  · have h1 := h.le.size
    have h2 : ∀ (Z : View) (y : Sl), (Z.minus y).size = Z.size := fun Z y => by unfold View.minus; split <;> rfl
    rw [h2] at h1 ⊢; exact h1
  · have h1 := h.le.out
    have h2 : ∀ (Z : View) (y : Sl), (Z.minus y).out = Z.out := fun Z y => by unfold View.minus; split <;> rfl
    rw [h2] at h1 ⊢; exact h1
  · refine ⟨h1.len, h1.le, h1.lim, h1.own.imp id ?_⟩
    rintro ⟨r, all, a, b, c⟩
    exact ⟨r, all, a, onlyC_see b (.inr rfl), c⟩
  · obtain ⟨a, b, c⟩ := h.pgs p hp
    exact ⟨minus_only a (.inr rfl), b, c⟩
set_option maxRecDepth 100000 in
set_option maxHeartbeats 4000000 in
theorem chipNew_ok {V : View} {s : Sl} {bad : List Int} {blocks : Nat} {pages : Nat} (hs : SlR V s bad) (hb0 : 1 ≤ blocks) (hb1 : blocks ≤ 64) (hp0 : 1 ≤ pages) (hp1 : pages ≤ 32) :
    CallV Tryz.prog 21 ⟨[.int .i64 blocks, .int .i64 pages, .slice s.a s.n s.c]⟩ V fun r V' => ∃ B x q, r = .pointer (some ⟨B + 2, 0, none⟩) ∧ q.map Prod.snd = uptoZ blocks ∧ V.size ≤ B ∧ NewI V B s bad pages V' x q := by
  refine ⟨enters_of (fn := Tryz.f21) (by kernel_rfl) (by kernel_rfl) (by kernel_rfl), fun w hw => ?_⟩
  refine (callsIn_wide (n := 5)).1 (callsIn_of_wp_marks Tryz.func21 rfl trivial ?_ rfl)
  simp only [Tryz.ntmps21, List.size_toArray, List.length_cons, List.length_nil, Nat.reduceAdd, Nat.reduceSub, Array.replicate_succ, Array.replicate_zero, List.push_toArray, List.append_toArray, List.nil_append, List.cons_append]
  have g1 : ¬ (blocks : Int) < 1 := by omega
  have g2 : ¬ (64 : Int) < blocks := by omega
  have g3 : ¬ (pages : Int) < 1 := by omega
  have g4 : ¬ (32 : Int) < pages := by omega
  gi_wp2
  refine ⟨trivial, (turn_in 4 _ _ _).mono ?_⟩
  rintro e w' ⟨rfl, rfl⟩
  have hVB : V.size ≤ w.heap.size := hw.size
  simp only [World.size_alloc]
  gi_wp2
  obtain ⟨V1, hV1⟩ : ∃ V1, V1 = (((((V.put w.heap.size (.cells ⟨[.int .i64 pages]⟩ 3)).put (w.heap.size + 1) (.cells ⟨[.slice s.a s.n s.c]⟩ 72)).put (w.heap.size + 1 + 1) (.cells ⟨chpL ⟨none, 0, 0⟩ (newC pages bad [])⟩ 113)).put (w.heap.size + 1 + 1 + 1) (.cells ⟨[.pointer (some ⟨w.heap.size + 1 + 1, 0, none⟩)]⟩ 47)).put (w.heap.size + 1 + 1 + 1 + 1) (.cells ⟨[.int .i64 blocks]⟩ 3)).put (w.heap.size + 1 + 1 + 1 + 1 + 1) (.cells ⟨[.int .i64 0]⟩ 3) := ⟨_, rfl⟩
  obtain ⟨W1, hW1⟩ : ∃ W1, (((((w.alloc (.cells #[.int .i64 pages] 3)).alloc (.cells #[.slice s.a s.n s.c] 72)).alloc (.cells #[.slice none 0 0, .int .i64 pages, .int .i64 0, .int .i64 0, .int .i64 0, .int .i64 (-1), .int .i64 (-1), .int .i64 (-1), .int .i64 0, .bool false] 113)).alloc (.cells #[.pointer (some ⟨w.heap.size + 1 + 1, 0, none⟩)] 47)).alloc (.cells #[.int .i64 blocks] 3)).alloc (.cells #[.int .i64 0] 3) = W1 := ⟨_, rfl⟩
  rw [hW1]
  have hI1 : V1.In W1 := by
    have i0 := In_alloc_put hw (.cells #[.int .i64 pages] 3)
    have i1 := In_alloc_put i0 (.cells #[.slice s.a s.n s.c] 72)
    have i2 := In_alloc_put i1 (.cells ⟨chpL ⟨none, 0, 0⟩ (newC pages bad [])⟩ 113)
    have i3 := In_alloc_put i2 (.cells #[.pointer (some ⟨w.heap.size + 1 + 1, 0, none⟩)] 47)
    have i4 := In_alloc_put i3 (.cells #[.int .i64 blocks] 3)
    have i5 := In_alloc_put i4 (.cells #[.int .i64 0] 3)
    simp only [World.size_alloc] at i1 i2 i3 i4 i5
    rw [hV1, ← hW1]; exact i5
  have hF1 : Fr V w V1 W1 := by
    have i0 := Fr_alloc_put (Fr.refl V w) (.cells #[.int .i64 pages] 3)
    have i1 := Fr_alloc_put i0 (.cells #[.slice s.a s.n s.c] 72)
    have i2 := Fr_alloc_put i1 (.cells ⟨chpL ⟨none, 0, 0⟩ (newC pages bad [])⟩ 113)
    have i3 := Fr_alloc_put i2 (.cells #[.pointer (some ⟨w.heap.size + 1 + 1, 0, none⟩)] 47)
    have i4 := Fr_alloc_put i3 (.cells #[.int .i64 blocks] 3)
    have i5 := Fr_alloc_put i4 (.cells #[.int .i64 0] 3)
    simp only [World.size_alloc] at i1 i2 i3 i4 i5
    rw [hV1, ← hW1]; exact i5
  have hS1 : W1.heap.size = w.heap.size + 6 := by rw [← hW1]; simp only [World.size_alloc]
  clear hW1
  obtain ⟨B, hB⟩ : ∃ B, w.heap.size = B := ⟨_, rfl⟩
  rw [hB] at hS1 hV1 hVB ⊢
  have see1 : ∀ {j : Nat} {o : Obj}, (V1.see j = some o) → ((V1.minus ⟨none, 0, 0⟩).see j = some o) := fun h => h
  have e0 : V1.see B = some (.cells ⟨[.int .i64 pages]⟩ 3 (0, 0)) := by
    rw [hV1]; iterate 5 rw [View.see_put_ne _ _ (by omega)]
    exact View.see_put_same _ _ _
  have e1 : V1.see (B + 1) = some (.cells ⟨[.slice s.a s.n s.c]⟩ 72 (0, 0)) := by
    rw [hV1]; iterate 4 rw [View.see_put_ne _ _ (by omega)]
    exact View.see_put_same _ _ _
  have e2 : V1.see (B + 2) = some (.cells ⟨chpL ⟨none, 0, 0⟩ (newC pages bad [])⟩ 113 (0, 0)) := by
    rw [hV1]; iterate 3 rw [View.see_put_ne _ _ (by omega)]
    exact View.see_put_same _ _ _
  have e3 : V1.see (B + 3) = some (.cells ⟨[.pointer (some ⟨B + 2, 0, none⟩)]⟩ 47 (0, 0)) := by
    rw [hV1]; iterate 2 rw [View.see_put_ne _ _ (by omega)]
    exact View.see_put_same _ _ _
  have e4 : V1.see (B + 4) = some (.cells ⟨[.int .i64 blocks]⟩ 3 (0, 0)) := by
    rw [hV1, View.see_put_ne _ _ (by omega)]
    exact View.see_put_same _ _ _
  have e5 : V1.see (B + 5) = some (.cells ⟨[.int .i64 0]⟩ 3 (0, 0)) := by
    rw [hV1]; exact View.see_put_same _ _ _
  have hC1 : ∀ i o, W1.heap.size ≤ i → V1.see i = some o → o.isCells = true := fun i o hi ho => by
    have := V1.lt i o ho; have := hI1.size; omega
  have hN1 : NewI V B s bad pages V1 ⟨none, 0, 0⟩ [] := by
    refine ⟨⟨?_, fun i o hi => see1 ?_, by rw [show (V1.minus ⟨none, 0, 0⟩) = V1 from rfl, hV1]; rfl⟩, e0, e1, e3, e2, ⟨[], Buf.nil _ _ _, rfl⟩, fun p hp => (by cases hp), List.nodup_nil, by simp⟩
    · have := hI1.size
      rw [show (V1.minus ⟨none, 0, 0⟩) = V1 from rfl, hV1]
      show V.size ≤ max (max (max (max (max (max _ _) _) _) _) _) _
      omega
    · have := V.lt i o hi
      rw [hV1]; iterate 6 rw [View.see_put_ne _ _ (by omega)]
      exact hi
  clear hV1 see1
  refine wpIn_rangeFunc_ownG (α := Int) (F := Fence.wide) rfl (by omega) (gf := 100) (lb := #[.pointer (some ⟨B + 1 + 1 + 1 + 1, 0, none⟩), .pointer (some ⟨B + 1 + 1 + 1 + 1 + 1, 0, none⟩)]) rfl trivial (enters_of Tryz.func100 (by kernel_rfl) rfl)
    (turn_stops 4 blocks (by omega) W1 (hI1.cell (cell_of_see e4 rfl)) (hI1.cell (cell_of_see e5 rfl))) (fun _ _ => trivial) (fun _ _ _ _ _ _ _ _ => trivial) (Below.refl _ _) (fun _ => rfl)
    (fun (pre : List Int) W => ∃ V' x q, q.map Prod.snd = pre ∧ NewI V B s bad pages V' x q ∧ V'.In W ∧ Fr V w V' W ∧ ∀ i o, W1.heap.size ≤ i → V'.see i = some o → o.isCells = true)
    (fun _ _ _ => False)
    (by
      rintro pre A A' row ⟨V', x, q, h1, h2, h3, h4, h5⟩ hg hr
      exact ⟨V', x, q, h1, h2, In_grown h3 h5 hg hr, Fr_grown h4 hg (fun r e => by have := (hr r e).1; omega), h5⟩)
    (fun _ _ _ _ _ h _ _ => h) ⟨V1, _, [], rfl, hN1, hI1, hF1, hC1⟩
    (fun x => { tmps := #[.int .i64 blocks, .int .i64 pages, .slice s.a s.n s.c, undef, .pointer (some ⟨B, 0, none⟩), .pointer (some ⟨B + 1, 0, none⟩), .pointer none, .pointer (some ⟨B + 1 + 1 + 1, 0, none⟩), .int .i64 x, .int .i64 blocks, .bool false, .bool false, .int .i64 blocks, .bool false, .bool false, .bool false, .int .i64 pages, .bool false, .bool false, .bool false, .int .i64 pages, .bool false, .bool false, .int .i64 pages,
      .agg #[.slice none 0 0, .int .i64 pages, .int .i64 0, .int .i64 0, .int .i64 0, .int .i64 (-1), .int .i64 (-1), .int .i64 (-1), .int .i64 0, .bool false], .pointer (some ⟨B + 1 + 1, 0, none⟩), .int .i64 blocks, .func (.func 100) #[] #[.pointer (some ⟨B + 1 + 1 + 1 + 1, 0, none⟩), .pointer (some ⟨B + 1 + 1 + 1 + 1 + 1, 0, none⟩)], .int .i64 x,
      undef, undef, undef, undef, undef, undef, undef, undef, undef, undef, undef, undef, undef, undef, undef, undef], defers := [] }) ?assign ?body ?done ?stop
  case assign =>
    intro l x W K hK
    gi_wp2
    exact hK
  case body =>
    rintro l pre x W ⟨V', y, q, rfl, h2, h3, h4, h5⟩ hlen
    rw [List.length_map] at hlen
    have hN := h2
    have hx := newR_ok (u := fun t => (#[.int .i64 blocks, .int .i64 pages, .slice s.a s.n s.c, undef, undef, undef, .pointer none, undef, undef, .int .i64 blocks, .bool false, .bool false, .int .i64 blocks, .bool false, .bool false, .bool false, .int .i64 pages, .bool false, .bool false, .bool false, .int .i64 pages, .bool false, .bool false, .int .i64 pages,
      .agg #[.slice none 0 0, .int .i64 pages, .int .i64 0, .int .i64 0, .int .i64 0, .int .i64 (-1), .int .i64 (-1), .int .i64 (-1), .int .i64 0, .bool false], .pointer (some ⟨B + 1 + 1, 0, none⟩), .int .i64 blocks, .func (.func 100) #[] #[.pointer (some ⟨B + 1 + 1 + 1 + 1, 0, none⟩), .pointer (some ⟨B + 1 + 1 + 1 + 1 + 1, 0, none⟩)], .int .i64 x] : Array Value).toList.getD t undef) (i := x) hs hp1 hN (by omega) hVB
    have hX := X_soundR (V0 := V') (w0 := W) (wr := false) l 3 Tryz.checked.mixed r21_ac _ _ V' _ _ W (by kernel_rfl) (start_agr' rfl) ⟨h3, Fr.refl _ _, ⟨by intro i b hb; simp [startX] at hb, by intro i b cs hb; simp [startX] at hb, by intro i j b c hb; simp [startX] at hb⟩⟩ (r21_x hx)
    refine wpIn_mono hX ?_
    rintro e a W3 hq
    cases e with
    | normal =>
      obtain ⟨st', V3, _, k1, _, y3, p3, k2⟩ := hq
      refine ⟨⟨k1.fr.size, fun k o hk ho hc => ?_⟩, trivial, V3.onlyC W1.heap.size, y3, q ++ [(p3, x)], by simp, k2.only (by omega), (onlyC_le _ _).In k1.isIn, Fr_only (h4.trans k1.fr) _, fun i o hi ho => onlyC_cells hi ho⟩
      have hn : V'.see k = none := by
        cases hs : V'.see k with
        | none => rfl
        | some o' =>
          have e1 := h3.see _ _ hs
          rw [ho] at e1
          cases e1
          have := h5 k o hk hs
          rw [hc] at this; cases this
      rw [(k1.fr.hid k (Array.getElem?_eq_some_iff.1 ho).1 hn).2]; exact ho
    | exit id => obtain ⟨st', V3, _, k1, _, k2⟩ := hq; exact k2.elim
    | ret => obtain ⟨st', V3, _, k1, _, k2⟩ := hq; exact k2.elim
    | _ => exact hq.elim
  case done =>
    rintro D xs W hD rfl ⟨V', x, q, h1, h2, h3, h4, h5⟩ hK
    have c3 : W.cell? ⟨B + 1 + 1 + 1, 0, none⟩ = some (.pointer (some ⟨B + 2, 0, none⟩)) := h3.cell (cell_of_see ((View.minus_le _ _).see _ _ h2.b3) rfl)
    gi_wp2
    refine ⟨by simp, .inl ⟨_, _, rfl, run_takeDeferred hK, ?_⟩⟩
    have hDn : ∃ o : Obj, W.heap[D]? = some o ∧ o.isCells = false := ⟨_, hK, rfl⟩
    refine ⟨_, results_tmp rfl _ _ _, _, V', rfl, In_grown h3 h5 (grownBy_putObj' W D (.deferred none)) ?_, Fr_grown h4 (grownBy_putObj' W D (.deferred none)) ?_, B, x, q, rfl, h1, hVB, h2⟩
    · rintro r e; cases e; exact ⟨hD, hDn⟩
    · rintro r e; cases e; omega
  case stop =>
    rintro D c pre W _ _ h _
    exact h.elim
end Go.Proofs.YtgkmcnafkhdlnaaGreat
/- A pool that every program must know. -/
namespace Go.Proofs.YtgkmcnafkhdlnaaGreat
open Go
theorem u8_rowP {V : View} {x : Sl} {l : List UInt8} (h : SlR V x l) : rowAt V x.a x.n (bytesV ⟨l.toArray⟩) := by
  have := h.row8
  rw [Nat.mul_one] at this
  have e : bytesV ⟨l.toArray⟩ = u8s l := by simp [bytesV, u8s]
  rw [e]; exact this
theorem newC_snd (pages : Nat) (bad : List Int) (q : List (Nat × Int)) : (newC pages bad q).bl.map Prod.snd = q.map fun p => blk0 pages (decide (p.2 ∈ bad)) := by
  unfold newC; simp
theorem repL_nils {W : View} : ∀ n : Nat, repL W (List.replicate n (.slice none 0 0)) (List.replicate n ([] : List UInt8))
  | 0 => rfl
  | n + 1 => ⟨[.slice none 0 0], List.replicate n (.slice none 0 0), rfl, ⟨⟨none, 0, 0⟩, rfl, SlR.nil _ _ _⟩, repL_nils n⟩
theorem NewI.chip {V V' : View} {B pages : Nat} {s x : Sl} {bad : List Int} {q : List (Nat × Int)} (h : NewI V B s bad pages V' x q) (hp : pages ≤ 32) (hB : V.size ≤ B) :
    ChipR V' (ChipO (B + 2) x (newC pages bad q)) (B + 2) x (newC pages bad q) ∧ V.Le V' ∧ (∀ i, ChipO (B + 2) x (newC pages bad q) i → V.see i = none) := by
  have hV : V.Le V' := h.le.trans (View.minus_le _ _)
  have mem : ∀ p ∈ (newC pages bad q).bl, ∃ p' ∈ q, p.1 = p'.1 ∧ p.2.pages = List.replicate pages [] := by
    intro p hp
    obtain ⟨p', hp', rfl⟩ := List.mem_map.1 hp
    exact ⟨p', hp', rfl, rfl⟩
  obtain ⟨cs, h1, h2⟩ := h.row
  refine ⟨⟨(View.minus_le _ _).see _ _ h.box, ⟨cs, h1, repL_any h2⟩, fun p hp => ?_, .inl rfl, fun a ha => ⟨.inr (.inl ⟨a, ha, rfl⟩), minus_ne h.box a ha, fun p hp => ?_⟩, fun p hp' => ⟨.inr (.inr ⟨p, hp', rfl⟩), ?_⟩, ?_, hp, by show (q.map _).length ≤ 64; rw [List.length_map]; exact h.len⟩, hV, ?_⟩
  · obtain ⟨p', hp', e1, e2⟩ := mem p hp
    rw [e1, e2]
    exact ⟨_, (View.minus_le _ _).see _ _ (h.pgs p' hp').1, repL_nils _, List.length_replicate⟩
  · obtain ⟨p', hp', e1, _⟩ := mem p hp
    rw [e1]; exact (minus_ne (h.pgs p' hp').1 a ha).symm
  · obtain ⟨p'', hp'', e1, _⟩ := mem p hp'
    rw [e1]; exact (h.pgs p'' hp'').2.1
  · show ((q.map _).map Prod.fst).Nodup
    rw [List.map_map]
    exact h.nd
  · rintro i (rfl | ⟨a, ha, rfl⟩ | ⟨p, hp, rfl⟩)
    · exact View.see_none_of_ge (by omega)
    · cases hs : V.see a.block with
      | none => rfl
      | some o => exact absurd rfl (minus_ne (h.le.see _ _ hs) a ha)
    · obtain ⟨p', hp', e1, _⟩ := mem p hp
      rw [e1]; exact (h.pgs p' hp').2.2
theorem newC_quiet {pages : Nat} (q : List (Nat × Int)) : Quiet (newC pages [] q) := by
  refine ⟨rfl, rfl, rfl, ⟨by simp [newC], by simp [newC]⟩, ⟨by simp [newC], by simp [newC]⟩, fun p hp => ?_⟩
  obtain ⟨p', hp', rfl⟩ := List.mem_map.1 hp
  refine ⟨by simp [blk0], rfl, Int.le_refl 0, by show (0 : Int) ≤ (pages : Int); omega, List.length_replicate, fun b hb => ?_⟩
  rw [List.eq_of_mem_replicate hb]; simp
/-- Where nothing was programmed, all is clean. -/
theorem cleansU_new {pages : Nat} {q : List (Nat × Int)} : ∀ k, k ≤ q.length → cleansU ((newC pages [] q).bl.map Prod.snd) k = (List.range k).map fun (i : Nat) => (i : Int)
  | 0, _ => rfl
  | k + 1, h => by
    rw [cleansU_succ, cleansU_new k (by omega), List.range_succ, List.map_append, if_pos]
    · rfl
    · rw [newC_snd, List.getD_eq_getElem?_getD, List.getElem?_map, List.getElem?_eq_getElem (show k < q.length by omega)]
      simp [cleanB, blk0]
/-- Bytes that a literal lays. -/
theorem litRow {V : View} {O : Nat → Prop} {r : Nat} {l : List UInt8} {te : TypeId} {f : Nat × Nat} (h : V.see r = some (.cells ⟨u8s l⟩ te f)) (hr : ¬ O r) (hl : l.length ≤ 1000000) : SlR (V.sans O) ⟨some ⟨r, 0, none⟩, l.length, l.length⟩ l := by
  refine ⟨rfl, Nat.le_refl _, by show l.length ≤ _; omega, fun i hi => ⟨_, [.int .u8 l[i].toNat], rfl, cellsAt_one.2 ?_, rfl⟩⟩
  rw [addr0_add]
  refine cell_of_see (by rw [sans_no hr]; exact h) ?_
  show (u8s l)[0 + i * 1]? = _
  unfold u8s
  rw [List.getElem?_map, Nat.zero_add, Nat.mul_one, List.getElem?_eq_getElem hi]; rfl
theorem litRef {V : View} {O : Nat → Prop} {r : Nat} {x : Rf} {te : TypeId} (h : V.see r = some (.cells ⟨[.int .i64 x.page, .int .i64 x.seq]⟩ te (0, 0))) (hr : ¬ O r) (h1 : inI .i64 x.page) (h2 : inI .i64 x.seq) : SlR (V.sans O) ⟨some ⟨r, 0, none⟩, 1, 1⟩ [x] := by
  have hb : Buf (V.sans O) ⟨some ⟨r, 0, none⟩, 1, 1⟩ te 2 [.int .i64 x.page, .int .i64 x.seq] := ⟨rfl, Nat.le_refl _, by show 1 ≤ _; omega, .inr ⟨r, _, rfl, by rw [sans_no hr]; exact h, rfl, rfl⟩⟩
  exact Buf.slR (α := Rf) (W := V.sans O) hb ⟨_, [], rfl, ⟨rfl, h1, h2⟩, rfl⟩ (View.Le.refl _)
theorem not_own {V : View} {O : Nat → Prop} {r : Nat} (hO : ∀ i, O i → V.see i ≠ none) (hr : V.see r = none) : ¬ O r := fun h => hO r h hr
def g0 : Cfg := ⟨6, 4, 1, 4, 3⟩
theorem awake10_ok {V : View} : CallV Tryz.prog 10 ⟨[]⟩ V fun r V' => r = .bool true ∧ V.Le V' := by
  refine f10_x (_u := ()) ?_
  unfold f10_n
  intro _
  refine (chipNew_ok (blocks := 6) (pages := 4) (s := ⟨none, 0, 0⟩) (bad := []) (SlR.nil V none 0) (by omega) (by omega) (by omega) (by omega)).mono ?_
  rintro r V1 ⟨B, x, q, rfl, hq6, hB, hN⟩
  obtain ⟨hc1, hV1, hno1⟩ := hN.chip (by omega) hB
  have hql : q.length = 6 := by have := congrArg List.length hq6; rw [List.length_map, uptoZ_len] at this; exact this
  have hqt := newC_quiet (pages := 4) q
  have hbl : (newC 4 [] q).bl.length = 6 := by show (q.map _).length = 6; rw [List.length_map]; exact hql
  refine ⟨_, rfl, (open_ok (g := g0) (seq := 0) hc1 (fun i hi => hc1.seen hi) hqt (by omega) (by rw [hbl]; rfl) rfl (by decide) (by omega) (by omega)).mono ?_⟩
  rintro r V2 ⟨p, t, ra, rb, rfl, h2, hV2, hno2⟩
  -- what is written first
  have nx0 : ∀ (i : Nat) (hi : i < (newC 4 [] q).bl.length), (newC 4 [] q).bl[i].2.nxt = 0 ∧ (newC 4 [] q).bl[i].2.pages = List.replicate 4 [] := by
    intro i hi
    obtain ⟨p', _, e⟩ := List.mem_map.1 (List.getElem_mem hi)
    rw [← e]; exact ⟨rfl, rfl⟩
  have hcl : (cleansU ((newC 4 [] q).bl.map Prod.snd) (newC 4 [] q).bl.length).length = 6 := by
    rw [cleansU_new _ (by rw [hbl, hql]; exact Nat.le_refl _), hbl]; rfl
  have hnu : ¬ usable (newC 4 [] q) (-1) := by rintro ⟨i, e, _⟩; omega
  refine ⟨_, _, rfl, fun r3 hr3 => ⟨⟨[.int .u8 120]⟩, 5, View.see_put_same _ _ _, ?_⟩⟩
  have hf3 : V2.see r3 = none := View.see_none_of_ge hr3
  rw [View.put_put]
  have hle3 := View.put_le (o := .cells ⟨[.int .u8 120]⟩ 5 (1, 2)) hf3
  have hs3 : (V2.put r3 (.cells ⟨[.int .u8 120]⟩ 5 (1, 2))).see r3 = some (.cells ⟨u8s [120]⟩ 5 (1, 2)) := View.see_put_same _ _ _
  have h3 := h2.le hle3
  have hO3 := not_own h2.seen hf3
  have m3 : MayS 3 ((0 : Int) + 1) [120] := mayS_iff.1 (by kernel_rfl)
  refine (polPut_ok (s := ⟨some ⟨r3, 0, none⟩, 1, 1⟩) (d := [120]) (page := 3) h3 hqt (by decide) rfl (by show 1 ≤ 4; omega) (.inl rfl) (fun _ => by rw [hcl]; decide) (by show (0 : Int) < _; omega) ⟨by show (0 : Int) ≤ 0; omega, by show (0 : Int) ≤ _; omega⟩ ⟨by decide, by decide⟩ (by decide) (by simp) (litRow hs3 hO3 (by decide)) m3 (by decide)).mono ?_
  rintro r V4 ⟨rfl, i, hi, f, hgo, _, h4, w4, sub4⟩
  obtain ⟨hn0, hp0⟩ := nx0 i hi
  have hqt4 := hqt.prog (b := laidS 3 ((0 : Int) + 1) [120]) hi (by rw [hn0]; show (0 : Int) < (4 : Int); omega) m3.ll (by show (0 : Int) < _; omega)
  have hT4 : putT (3, (0 : Int) + 1) ((i : Int), (newC 4 [] q).bl[i].2.nxt) [] = [((3, 1), ((i : Int), 0))] := by
    rw [hn0]; simp [putT, canP, onP, lookP, swapL, delP]
  have hi4 : i < (progC (newC 4 [] q) i (laidS 3 ((0 : Int) + 1) [120]) hi).bl.length := by
    show i < ((newC 4 [] q).bl.set i _).length
    rw [List.length_set]; exact hi
  have e4 : (progC (newC 4 [] q) i (laidS 3 ((0 : Int) + 1) [120]) hi).bl[i] = ((newC 4 [] q).bl[i].1, { (newC 4 [] q).bl[i].2 with nxt := (newC 4 [] q).bl[i].2.nxt + 1, pages := (newC 4 [] q).bl[i].2.pages.set (newC 4 [] q).bl[i].2.nxt.toNat (laidS 3 ((0 : Int) + 1) [120]) }) := List.getElem_set_self _
  have n4 : (progC (newC 4 [] q) i (laidS 3 ((0 : Int) + 1) [120]) hi).bl[i].2.nxt = 1 := by rw [e4]; show _ + 1 = _; rw [hn0]; rfl
  have p4 : (progC (newC 4 [] q) i (laidS 3 ((0 : Int) + 1) [120]) hi).bl[i].2.pages = [laidS 3 ((0 : Int) + 1) [120], [], [], []] := by
    rw [e4]; show List.set _ _ _ = _; rw [hn0, hp0]; rfl
  have u4 : usable (progC (newC 4 [] q) i (laidS 3 ((0 : Int) + 1) [120]) hi) (i : Int) := ⟨i, rfl, hi4, by rw [n4]; show (1 : Int) < (4 : Int); omega⟩
  have len4 : (progC (newC 4 [] q) i (laidS 3 ((0 : Int) + 1) [120]) hi).bl.length = 6 := by
    show ((newC 4 [] q).bl.set i _).length = 6
    rw [List.length_set]; exact hbl
  have pr4 : (progC (newC 4 [] q) i (laidS 3 ((0 : Int) + 1) [120]) hi).progs < 1000000 := by show (0 : Int) + 1 < _; omega
  have pg4 : (progC (newC 4 [] q) i (laidS 3 ((0 : Int) + 1) [120]) hi).pages = 4 := rfl
  simp only [hT4, List.nil_append] at h4
  generalize progC (newC 4 [] q) i (laidS 3 ((0 : Int) + 1) [120]) hi = C4 at *
  -- the root
  refine ⟨_, _, _, rfl, fun _ r5 hr5 => ⟨⟨[.int .u8 114, .int .u8 111, .int .u8 111, .int .u8 116]⟩, 5, View.see_put_same _ _ _, fun r6 hr6 => ?_⟩⟩
  rw [View.put_put] at hr6 ⊢
  have hf5 : V4.see r5 = none := View.see_none_of_ge hr5
  have hle5 := View.put_le (o := .cells ⟨[.int .u8 114, .int .u8 111, .int .u8 111, .int .u8 116]⟩ 5 (4, 5)) hf5
  have hs5 : (V4.put r5 (.cells ⟨[.int .u8 114, .int .u8 111, .int .u8 111, .int .u8 116]⟩ 5 (4, 5))).see r5 = some (.cells ⟨u8s [114, 111, 111, 116]⟩ 5 (4, 5)) := View.see_put_same _ _ _
  have hf6 : (V4.put r5 (.cells ⟨[.int .u8 114, .int .u8 111, .int .u8 111, .int .u8 116]⟩ 5 (4, 5))).see r6 = none := View.see_none_of_ge hr6
  have hle6 := View.put_le (o := .cells ⟨[.int .i64 3, .int .i64 ((0 : Int) + 1)]⟩ 33 (0, 0)) hf6
  have hs5' := hle6.see _ _ hs5
  have hs6 : ((V4.put r5 (.cells ⟨[.int .u8 114, .int .u8 111, .int .u8 111, .int .u8 116]⟩ 5 (4, 5))).put r6 (.cells ⟨[.int .i64 3, .int .i64 ((0 : Int) + 1)]⟩ 33 (0, 0))).see r6 = some (.cells ⟨[.int .i64 (⟨3, 1⟩ : Rf).page, .int .i64 (⟨3, 1⟩ : Rf).seq]⟩ 33 (0, 0)) := View.see_put_same _ _ _
  have h6 := h4.le (hle5.trans hle6)
  have hO5 := not_own h4.seen hf5
  have hO6 : ¬ swapO (fun i => ChipO (B + 2) x (newC 4 [] q) i ∨ PolO ⟨p, B + 2, t, ra, rb, x, ⟨none, 0, 0⟩⟩ i) ⟨none, 0, 0⟩ f r6 := fun hh => seen_le hle5 h4.seen _ hh hf6
  have m6 : MayS 0 ((0 : Int) + 1 + 1) [114, 111, 111, 116] := mayS_iff.1 (by kernel_rfl)
  refine (seal_ok (s := ⟨some ⟨r5, 0, none⟩, 4, 4⟩) (l := ⟨some ⟨r6, 0, none⟩, 1, 1⟩) (d := [114, 111, 111, 116]) (live := [⟨3, 1⟩]) h6 hqt4 (by show (0 : Int) ≤ 1; decide) (by rw [pg4]; rfl) (by rw [pg4]; omega) (.inr ⟨i, rfl, hi4⟩) (fun hh => absurd u4 hh) pr4 ⟨by show (0 : Int) ≤ 0 + 1; omega, by show (0 : Int) + 1 ≤ _; omega⟩ (by simp) (litRow hs5' hO5 (by decide)) (litRef hs6 hO6 (inI64 (by decide) (by decide)) (inI64 (by decide) (by decide))) m6 rfl).mono ?_
  rintro r V7 ⟨rfl, i', hi', hgo', _, h7, w7, sub7⟩
  have ei : i' = i := by
    rcases hgo' with ⟨_, e⟩ | ⟨e, _⟩
    · have e : (i : Int) = (i' : Int) := e
      omega
    · exact absurd u4 e
  subst ei
  have hqt7 := hqt4.prog (b := laidS 0 ((0 : Int) + 1 + 1) [114, 111, 111, 116]) hi4 (by rw [n4, pg4]; omega) m6.ll pr4
  have e7 : (progC C4 i' (laidS 0 ((0 : Int) + 1 + 1) [114, 111, 111, 116]) hi4).bl[i']? = some (C4.bl[i'].1, { C4.bl[i'].2 with nxt := C4.bl[i'].2.nxt + 1, pages := C4.bl[i'].2.pages.set C4.bl[i'].2.nxt.toNat (laidS 0 ((0 : Int) + 1 + 1) [114, 111, 111, 116]) }) := List.getElem?_set_self hi4
  have hi7 : i' < (progC C4 i' (laidS 0 ((0 : Int) + 1 + 1) [114, 111, 111, 116]) hi4).bl.length := by
    show i' < (C4.bl.set i' _).length
    rw [List.length_set]; exact hi4
  have p7 : (progC C4 i' (laidS 0 ((0 : Int) + 1 + 1) [114, 111, 111, 116]) hi4).bl[i'].2.pages[0]? = some (laidS 3 ((0 : Int) + 1) [120]) := by
    rw [List.getElem?_eq_getElem hi7] at e7
    rw [Option.some.inj e7]
    show (C4.bl[i'].2.pages.set C4.bl[i'].2.nxt.toNat _)[0]? = _
    rw [n4, p4]; rfl
  have pg7 : (progC C4 i' (laidS 0 ((0 : Int) + 1 + 1) [114, 111, 111, 116]) hi4).pages = 4 := pg4
  have hT7 : keepT (0, (0 : Int) + 1 + 1) [⟨3, 1⟩] (putT (0, (0 : Int) + 1 + 1) ((i' : Int), C4.bl[i'].2.nxt) [((3, 1), ((i' : Int), 0))]) = [((3, 1), ((i' : Int), 0)), ((0, 2), ((i' : Int), 1))] := by
    rw [n4]; simp [putT, canP, onP, lookP, swapL, delP, keepT]
  simp only [hT7] at h7
  generalize progC C4 i' (laidS 0 ((0 : Int) + 1 + 1) [114, 111, 111, 116]) hi4 = C7 at *
  refine ⟨_, rfl, (polRead_ok (r := (3, 1)) (i := i') (j := 0) h7 hqt7 rfl hi7 (by rw [pg7]; omega) p7 (parseS_laidS m3)).mono ?_⟩
  rintro r V8 ⟨y, rfl, hy, h8, w8⟩
  -- nothing that was there has turned
  have hle : V.Le V8 := by
    have go : ∀ {O : Nat → Prop} {W W' : View}, (∀ i, O i → V.see i = none) → V.Le W → Wr O W W' → V.Le W' := fun hO hW w => ((Wr.of hW).trans w).le hO
    have un : ∀ {W : View} {i : Nat}, V.Le W → W.see i = none → V.see i = none := fun {W i} hW hi => by
      cases hs : V.see i with
      | none => rfl
      | some o => rw [hW.see _ _ hs] at hi; cases hi
    have no2 : ∀ i, (ChipO (B + 2) x (newC 4 [] q) i ∨ PolO ⟨p, B + 2, t, ra, rb, x, ⟨none, 0, 0⟩⟩ i) → V.see i = none := fun i hi => hi.elim (hno1 i) fun hi => un hV1 (hno2 i hi)
    have l3 := (hV1.trans hV2).trans hle3
    have l4 := go no2 l3 w4
    have no4 := fun i (hi : swapO _ _ f i) => (sub4 i hi).elim (no2 i) (un l3)
    have l6 := l4.trans (hle5.trans hle6)
    have l7 := go no4 l6 w7
    exact go (fun i hi => (sub7 i hi).elim (no4 i) (un l6)) l7 w8
  have hyr := u8_rowP hy
  refine ⟨y, _, rfl, joinP_cut (fun z V' => z.1 = true ∧ V.Le V') (br_intro (fun _ => ⟨trivial, br_intro (fun _ => ⟨_, hyr, br_intro (fun _ => (polLive_ok h8 rfl (by show (2 : Nat) ≤ 1000000; decide)).mono ?_) (fun h0 => ?_)⟩) (fun h0 => by cases h0)⟩) (fun h0 => by cases h0)) (fun z V' hz => ?_)⟩
  · rintro r V9 ⟨z, rfl, hzn, hV9⟩
    have hzn : z.n = 2 := hzn
    refine ⟨z, rfl, br_intro (fun _ => (polSeq_ok (h8.le hV9)).mono ?_) (fun h0 => ?_)⟩
    · rintro r V10 ⟨rfl, rfl⟩
      exact ⟨_, rfl, rfl, hle.trans hV9⟩
    · rw [hzn] at h0; simp at h0
  · exact absurd h0 (by decide)
  · rcases z with ⟨z, ⟨⟩⟩
    obtain ⟨hz, hV⟩ := hz
    try simp only at hz
    dsimp only [unc]
    exact ⟨by rw [hz], hV⟩
end Go.Proofs.YtgkmcnafkhdlnaaGreat
/- PoolNil. -/
namespace Go.Proofs.YtgkmcnafkhdlnaaGreat
open Go Go.RowKit Go.Shelf
attribute [local go_sem] Oper.semAt_some
/-- What runs through on a world that it only adds to. -/
theorem CallV.ofGrow {f : FuncId} {fn : Func} {args : Array Value} {V : View} {v : Value} (he : Enters Tryz.prog f) (h : ∀ w, Calls Tryz.prog f args w fun e w' => e = .returned v ∧ Below w.heap.size w w' ∧ World.outer w' = World.outer w) : CallV Tryz.prog f args V fun r V' => r = v ∧ V' = V :=
  ⟨he, fun w hw => (h w).mono fun e w' ⟨h1, h2, h3⟩ => ⟨v, V, h1, ⟨Nat.le_trans hw.size h2.size, fun i o hi => (h2.block _ (Nat.lt_of_lt_of_le (V.lt i o hi) hw.size)).trans (hw.see i o hi), h3.trans hw.out⟩, ⟨h2.size, fun i hi hn => ⟨hn, h2.block _ hi⟩, fun e => e.elim⟩, rfl, rfl⟩⟩
set_option maxHeartbeats 4000000 in
/-- (*Pool).New of none. -/
theorem polNewNil_ok {V : View} : CallV Tryz.prog 17 ⟨[.pointer none]⟩ V fun r V' => r = .slice none 0 0 ∧ V' = V := by
  refine CallV.ofGrow (fn := Tryz.f17) (enters_of (fn := Tryz.f17) (by kernel_rfl) (by kernel_rfl) (by kernel_rfl)) fun w => ?_
  refine (callsIn_wide (n := 5)).1 (callsIn_of_wp Tryz.func17 rfl trivial ?_ rfl)
  simp only [Tryz.ntmps17, List.size_toArray, List.length_cons, List.length_nil, Nat.reduceAdd, Nat.reduceSub, Array.replicate_succ, Array.replicate_zero, List.push_toArray, List.append_toArray, List.nil_append, List.cons_append]
  gi_wp2
  refine bodyPost_ret (results_tmp rfl _ _ _) rfl ?_
  exact ⟨rfl, Below.refl _ _, rfl⟩
/-! ### none -/
/-! ### a pool that may not be -/
end Go.Proofs.YtgkmcnafkhdlnaaGreat
/- PoolNil, the law. -/
namespace Go.Proofs.YtgkmcnafkhdlnaaGreat
open Go
end Go.Proofs.YtgkmcnafkhdlnaaGreat
/- How rows and trees come in. -/
namespace Go.Proofs.YtgkmcnafkhdlnaaGreat
open Go Go.RowKit Go.ChangeShapes Go.WideShapes
section
variable {H : Type} {enc : TypeId × Value → H} {P : Program} {w : World} {base b0 : Nat} {sp : Nat → Bool} {held : Bool} {r : Go.Reach} {v : Value} {d : DataW H} {ps : List MemPlace}
theorem in_slice {α : Type} [Rep α] {t e : TypeId} (ht : P.underlying t = some (.slice e)) (hT : TrodRep P (List α) t) (hv : Value.okWide P w r b0 t v) (hd : DataW.Trod enc P w base sp held t v d ps) :
    ∃ (s : Sl) (l : List α), v = .slice s.a s.n s.c ∧ SlR (View.all w) s l := by
  obtain ⟨a, len, cap, rfl⟩ := okWide_slice ht hv
  obtain ⟨fuel, hf⟩ := hd
  obtain ⟨l, s, he, hs⟩ := hT.of hf
  simp [Value.cells] at he
  exact ⟨s, l, by rw [he.1, he.2.1, he.2.2], hs⟩
end
instance : Rep Cfg where
  sz := 5
  pos := by decide
  rep _ vs g := vs = cfgL g ∧ CfgI g
  len h := by rw [h.1]; rfl
  one h := by rw [h.1]; rfl
  mono _ h := h
/-- A call of the pool's laws. -/
structure PCal where
  d : Int
  n : Int
  keep : Int
  page : Int
  data : List UInt8
  pick : List Bool
structure PCalR (V : View) (c : PCal) (s t : Sl) : Prop where
  d : inI .i64 c.d
  n : inI .i64 c.n
  keep : inI .i64 c.keep
  page : inI .i64 c.page
  data : SlR V s c.data
  pick : SlR V t c.pick
def pcalL (c : PCal) (s t : Sl) : List Value := [.int .i64 c.d, .int .i64 c.n, .int .i64 c.keep, .int .i64 c.page, .slice s.a s.n s.c, .slice t.a t.n t.c]
instance : Rep PCal where
  sz := 6
  pos := by decide
  rep V vs c := ∃ s t : Sl, vs = pcalL c s t ∧ PCalR V c s t
  len h := by obtain ⟨s, t, h, _⟩ := h; rw [h]; rfl
  one h := by obtain ⟨s, t, h, _⟩ := h; rw [h]; rfl
  mono hV h := let ⟨s, t, h, k⟩ := h; ⟨s, t, h, k.d, k.n, k.keep, k.page, k.data.mono hV, k.pick.mono hV⟩
theorem trodRep_cfg {P : Program} {t ti : TypeId} (h0 : fieldX P t 0 = some (0, ti)) (h1 : fieldX P t 1 = some (1, ti)) (h2 : fieldX P t 2 = some (2, ti)) (h3 : fieldX P t 3 = some (3, ti)) (h4 : fieldX P t 4 = some (4, ti)) (hc : P.cellsOf t = 5) (hci : P.cellsOf ti = 1) (hi : P.underlying ti = some (.int .i64)) : TrodRep P Cfg t := ⟨fun {H enc w base sp held fuel cs x} h => by
  obtain ⟨hl, n0, y0, g0⟩ := trod_field h0 h
  obtain ⟨_, n1, y1, g1⟩ := trod_field h1 h
  obtain ⟨_, n2, y2, g2⟩ := trod_field h2 h
  obtain ⟨_, n3, y3, g3⟩ := trod_field h3 h
  obtain ⟨_, n4, y4, g4⟩ := trod_field h4 h
  rw [hc] at hl
  match cs, hl with
  | [a, b, c, d, e], _ =>
    rw [hci] at g0 g1 g2 g3 g4
    obtain ⟨m0, e0, w0⟩ := (trodRep_int hi).of g0
    obtain ⟨m1, e1, w1⟩ := (trodRep_int hi).of g1
    obtain ⟨m2, e2, w2⟩ := (trodRep_int hi).of g2
    obtain ⟨m3, e3, w3⟩ := (trodRep_int hi).of g3
    obtain ⟨m4, e4, w4⟩ := (trodRep_int hi).of g4
    simp at e0 e1 e2 e3 e4
    exact ⟨⟨m0, m1, m2, m3, m4⟩, by rw [e0, e1, e2, e3, e4]; rfl, ⟨w0, w1, w2, w3, w4⟩⟩⟩
theorem cfgIn : TrodRep Tryz.prog Cfg 23 := trodRep_cfg (ti := 3) (by kernel_rfl) (by kernel_rfl) (by kernel_rfl) (by kernel_rfl) (by kernel_rfl) (by kernel_rfl) (by kernel_rfl) Tryz.underlying3
section
variable {H : Type} {enc : TypeId × Value → H} {P : Program} {w : World} {base b0 : Nat} {sp : Nat → Bool} {held : Bool} {r : Go.Reach} {t : TypeId} {fs : Array Field} {v : Value} {d : DataW H} {ps : List MemPlace}
theorem in_cfg (ht : P.underlying t = some (.struct fs)) (hT : TrodRep P Cfg t) (hv : Value.okWide P w r b0 t v) (hd : DataW.Trod enc P w base sp held t v d ps) : ∃ g : Cfg, v = cfgV g ∧ CfgI g := by
  obtain ⟨⟨cs⟩, rfl, hsz⟩ := okWide_struct ht hv
  obtain ⟨fuel, hf⟩ := hd
  obtain ⟨g, h, k⟩ := hT.of hf
  have h : cs = cfgL g := h
  exact ⟨g, by rw [h]; rfl, k⟩
end
end Go.Proofs.YtgkmcnafkhdlnaaGreat
/- Bits of numbers: plain lemmas. -/
namespace Go.Proofs.YtgkmcnafkhdlnaaGreat
open Go
theorem wrapI {n : Int} (h0 : -9223372036854775808 ≤ n) (h1 : n ≤ 9223372036854775807) : IntKind.wrap .i64 n = n := by
  unfold IntKind.wrap
  simp [IntKind.signed, IntKind.bits]
  omega
theorem ofInt_nat (w n : Nat) : BitVec.ofInt w (n : Int) = BitVec.ofNat w n := by
  simp
theorem and127 {n : Nat} (h : n ≤ 9223372036854775807) : bitsI .and .i64 (n : Int) 127 = ((n % 128 : Nat) : Int) := by
  have e : bitsI .and .i64 (n : Int) 127 = IntKind.wrap .i64 ((BitVec.ofInt 64 (n : Int) &&& BitVec.ofInt 64 ((127 : Nat) : Int)).toNat) := rfl
  rw [e, ofInt_nat, ofInt_nat, BitVec.toNat_and, BitVec.toNat_ofNat, BitVec.toNat_ofNat]
  have h1 : n % 2 ^ 64 = n := Nat.mod_eq_of_lt (by omega)
  have h2 : (127 : Nat) % 2 ^ 64 = 2 ^ 7 - 1 := by decide
  rw [h1, h2, Nat.and_two_pow_sub_one_eq_mod]
  exact wrapI (by omega) (by omega)
theorem or128 {c : Nat} (hc : c < 128) : bitsI .or .u8 (c : Int) 128 = ((c + 128 : Nat) : Int) := by
  have : ∀ c, c < 128 → bitsI .or .u8 ((c : Nat) : Int) 128 = ((c + 128 : Nat) : Int) := by decide +kernel
  exact this c hc
end Go.Proofs.YtgkmcnafkhdlnaaGreat
/- What the executor asks of these functions, written out. (Printed by wip/tools/gen.py.) -/
set_option maxRecDepth 100000
set_option linter.unusedVariables false
namespace Go.Proofs.YtgkmcnafkhdlnaaGreat
open Go
variable [DrK]
/-- potsherd/potsherdlaw10.PoolSeals -/
def f6_n (a0_0 : Int) (a0_1 : Int) (a0_2 : Int) (a0_3 : Int) (a0_4 : Int) (a1 : Sl) (a2 : Int) (a3 : Int) (V : View) (Q : Value → View → Prop) : Prop :=
    ∀ (b : Nat), CallV Tryz.prog (22 : Nat) (Array.mk [Value.agg (Array.mk [Value.int IntKind.i64 a0_0, Value.int IntKind.i64 a0_1, Value.int IntKind.i64 a0_2, Value.int IntKind.i64 a0_3, Value.int IntKind.i64 a0_4]), Value.slice none (0 : Nat) (0 : Nat), Value.slice none (0 : Nat) (0 : Nat)]) V fun (r : Value) (V : View) => ∃ (x : Option Addr), r = Value.pointer x ∧ br (bif Option.isNone x then true else decide ((60 : Int) < (↑(Sl.n a1) : Int))) (CallV Tryz.prog (10 : Nat) (Array.mk []) V fun (r : Value) (V : View) => ∃ (x : Bool), r = Value.bool x ∧ Q (Value.bool x) V) (∃ (a : Addr), x = some a ∧ ∃ (x_1 : Option Addr), View.cell? V (Addr.add a (1 : Nat)) = some (Value.pointer x_1) ∧ br (Option.isNone x_1) (Q (Value.bool false) V) ((60 : Int) ≠ (0 : Int) ∧ inI IntKind.i64 (Int.tmod (IntKind.wrap IntKind.u64 a2) (60 : Int)) ∧ inI IntKind.i64 ((1 : Int) + Int.tmod (IntKind.wrap IntKind.u64 a2) (60 : Int)) ∧ joinP [K.bool] (fun (J : CurP [K.bool]) => CallV Tryz.prog (23 : Nat) (Array.mk [Value.pointer x, Value.agg (Array.mk [Value.int IntKind.i64 (0 : Int), Value.int IntKind.i64 (0 : Int), Value.int IntKind.i64 (0 : Int), Value.int IntKind.i64 ((1 : Int) + Int.tmod (IntKind.wrap IntKind.u64 a2) (60 : Int)), Value.slice (Sl.a a1) (Sl.n a1) (Sl.c a1), Value.slice none (0 : Nat) (0 : Nat)])]) V fun (r : Value) (V : View) => ∃ (x_2 : Bool), r = Value.bool x_2 ∧ br (!x_2) (J true V) (newB V (Obj.cells (Array.mk (putL [Value.bool false] (0 : Nat) [Value.bool true])) (4 : Nat)) fun (r : Nat) (V : View) => CallV Tryz.prog (24 : Nat) (Array.mk [Value.pointer x, Value.agg (Array.mk [Value.int IntKind.i64 (0 : Int), Value.int IntKind.i64 (0 : Int), Value.int IntKind.i64 (0 : Int), Value.int IntKind.i64 (0 : Int), Value.slice (Sl.a a1) (Sl.n a1) (Sl.c a1), Value.slice (some (Addr.mk r (0 : Nat) none)) (1 : Nat) (1 : Nat)])]) V fun (r : Value) (V : View) => ∃ (x_3 : Bool), r = Value.bool x_3 ∧ br (!x_3) (J true V) (newB V (Obj.cells (Array.mk (putL (putL (putL [Value.int IntKind.u8 (0 : Int), Value.int IntKind.u8 (0 : Int), Value.int IntKind.u8 (0 : Int)] (0 : Nat) [Value.int IntKind.u8 (110 : Int)]) (1 : Nat) [Value.int IntKind.u8 (101 : Int)]) (2 : Nat) [Value.int IntKind.u8 (119 : Int)])) (5 : Nat)) fun (r : Nat) (V : View) => ∃ (cs : Array Value), ∃ (te : Nat), View.see V r = some (Obj.cells cs te) ∧ CallV Tryz.prog (23 : Nat) (Array.mk [Value.pointer x, Value.agg (Array.mk [Value.int IntKind.i64 (0 : Int), Value.int IntKind.i64 (0 : Int), Value.int IntKind.i64 (0 : Int), Value.int IntKind.i64 ((1 : Int) + Int.tmod (IntKind.wrap IntKind.u64 a2) (60 : Int)), Value.slice (some (Addr.mk r (0 : Nat) none)) (3 : Nat) (3 : Nat), Value.slice none (0 : Nat) (0 : Nat)])]) (View.put V r (Obj.cells cs te (Array.size cs, Nat.succ (Nat.add (Array.size cs) (nat_lit 0))))) fun (r : Value) (V : View) => ∃ (x_4 : Bool), r = Value.bool x_4 ∧ br (!x_4) (J true V) (∃ (a : Addr), x = some a ∧ ∃ (x_5 : Sl), View.cell? V (Addr.add a (9 : Nat)) = some (Value.slice (Sl.a x_5) (Sl.n x_5) (Sl.c x_5)) ∧ br (!decide ((↑(Sl.n x_5) : Int) = (1 : Int))) (J true V) (∃ (a : Addr), x = some a ∧ ∃ (x : Sl), View.cell? V (Addr.add a (8 : Nat)) = some (Value.slice (Sl.a x) (Sl.n x) (Sl.c x)) ∧ J (!decide ((↑(Sl.n x) : Int) = (2 : Int))) V))))) fun (x_2 : Bool) (V : View) => br x_2 (Q (Value.bool false) V) (joinP [K.int IntKind.i64, K.int IntKind.i64, K.int IntKind.i64, K.int IntKind.i64] (fun (J : CurP [K.int IntKind.i64, K.int IntKind.i64, K.int IntKind.i64, K.int IntKind.i64]) => True ∧ ∃ (S : View), View.Le S V ∧ ∃ (a : Addr), x = some a ∧ ∃ (x_3 : Sl), View.cell? S (Addr.add a (8 : Nat)) = some (Value.slice (Sl.a x_3) (Sl.n x_3) (Sl.c x_3)) ∧ (0 : Int) ≤ (0 : Int) ∧ (0 : Int) < (↑(Sl.n x_3) : Int) ∧ ∃ (ad : Addr), Sl.a x_3 = some ad ∧ ∃ (x_4 : Int), ∃ (x_5 : Int), cellsAt S (Addr.add (Addr.add ad (0 : Nat)) (0 : Nat)) [Value.int IntKind.i64 x_4, Value.int IntKind.i64 x_5] ∧ ∃ (a : Addr), x = some a ∧ ∃ (x : Sl), View.cell? S (Addr.add a (9 : Nat)) = some (Value.slice (Sl.a x) (Sl.n x) (Sl.c x)) ∧ (0 : Int) ≤ (0 : Int) ∧ (0 : Int) < (↑(Sl.n x) : Int) ∧ ∃ (ad : Addr), Sl.a x = some ad ∧ ∃ (x : Int), ∃ (x_6 : Int), cellsAt S (Addr.add (Addr.add ad (0 : Nat)) (0 : Nat)) [Value.int IntKind.i64 x, Value.int IntKind.i64 x_6] ∧ (∀ (b : Nat), View.Le S V ∧ ∀ (b : Nat), View.Le S V ∧ View.Le S V ∧ J x_4 x_5 x x_6 V) ∧ ∀ (b : Nat), View.Le S V ∧ ∀ (b : Nat), View.Le S V ∧ View.Le S V ∧ J x_4 x_5 x x_6 V) fun (x_3 x_4 x_5 x_6 : Int) (V : View) => ∀ (b b : Nat), newB V (Obj.cells (Array.mk (putL (putL [Value.int IntKind.i64 (0 : Int), Value.int IntKind.i64 (0 : Int), Value.int IntKind.i64 (0 : Int), Value.int IntKind.i64 (0 : Int)] (0 : Nat) [Value.int IntKind.i64 x_3, Value.int IntKind.i64 x_4]) (2 : Nat) [Value.int IntKind.i64 x_5, Value.int IntKind.i64 x_6])) (33 : Nat)) fun (r : Nat) (V : View) => newB V (Obj.cells (Array.mk (putL [Value.int IntKind.i64 (0 : Int), Value.int IntKind.i64 (0 : Int)] (0 : Nat) [Value.int IntKind.i64 ((1 : Int) + Int.tmod (IntKind.wrap IntKind.u64 a2) (60 : Int)), Value.int IntKind.i64 (99999 : Int)])) (33 : Nat)) fun (r_1 : Nat) (V : View) => newB V (Obj.cells (Array.mk (putL [Value.int IntKind.i64 (0 : Int), Value.int IntKind.i64 (0 : Int)] (0 : Nat) [Value.int IntKind.i64 (0 : Int), Value.int IntKind.i64 (2 : Int)])) (33 : Nat)) fun (r_2 : Nat) (V : View) => newB V (Obj.cells (Array.mk (putL (putL [Value.int IntKind.i64 (0 : Int), Value.int IntKind.i64 (0 : Int), Value.int IntKind.i64 (0 : Int), Value.int IntKind.i64 (0 : Int)] (0 : Nat) [Value.int IntKind.i64 x_5, Value.int IntKind.i64 x_6]) (2 : Nat) [Value.int IntKind.i64 x_5, Value.int IntKind.i64 x_6])) (33 : Nat)) fun (r_3 : Nat) (V : View) => newB V (Obj.cells (Array.mk (putL (putL (putL (putL [Value.slice none (0 : Nat) (0 : Nat), Value.slice none (0 : Nat) (0 : Nat), Value.slice none (0 : Nat) (0 : Nat), Value.slice none (0 : Nat) (0 : Nat)] (0 : Nat) [Value.slice (some (Addr.mk r (0 : Nat) none)) (2 : Nat) (2 : Nat)]) (1 : Nat) [Value.slice (some (Addr.mk r_1 (0 : Nat) none)) (1 : Nat) (1 : Nat)]) (2 : Nat) [Value.slice (some (Addr.mk r_2 (0 : Nat) none)) (1 : Nat) (1 : Nat)]) (3 : Nat) [Value.slice (some (Addr.mk r_3 (0 : Nat) none)) (2 : Nat) (2 : Nat)])) (44 : Nat)) fun (r : Nat) (V : View) => (4 : Int) ≠ (0 : Int) ∧ inI IntKind.i64 (Int.tmod (IntKind.wrap IntKind.u64 a3) (4 : Int)) ∧ (0 : Int) ≤ Int.tmod (IntKind.wrap IntKind.u64 a3) (4 : Int) ∧ Int.tmod (IntKind.wrap IntKind.u64 a3) (4 : Int) < (↑(4 : Nat) : Int) ∧ ∃ (ad : Addr), some (Addr.mk r (0 : Nat) none) = some ad ∧ ∃ (x_7 : Sl), View.cell? V (Addr.add ad (Int.toNat (Int.tmod (IntKind.wrap IntKind.u64 a3) (4 : Int)) * (1 : Nat))) = some (Value.slice (Sl.a x_7) (Sl.n x_7) (Sl.c x_7)) ∧ ∃ (a : Addr), x = some a ∧ ∃ (x_8 : Option Addr), View.cell? V (Addr.add a (1 : Nat)) = some (Value.pointer x_8) ∧ CallV Tryz.prog (15 : Nat) (Array.mk [Value.pointer x_8, Value.slice (Sl.a a1) (Sl.n a1) (Sl.c a1), Value.slice (Sl.a x_7) (Sl.n x_7) (Sl.c x_7)]) V fun (r : Value) (V : View) => ∃ (x_9 : Int), r = Value.int IntKind.i64 x_9 ∧ ∃ (a : Addr), x = some a ∧ canSet V (Addr.add a (9 : Nat)) (1 : Nat) ∧ True ∧ ∃ (S : View), View.Le S (View.sets V (Addr.add a (9 : Nat)) [Value.slice none (0 : Nat) (0 : Nat)]) ∧ ∃ (a_1 : Addr), x = some a_1 ∧ ∃ (x_10 : Option Addr), View.cell? S (Addr.add a_1 (1 : Nat)) = some (Value.pointer x_10) ∧ CallV Tryz.prog (13 : Nat) (Array.mk [Value.pointer x_10, Value.agg (Array.mk [Value.int IntKind.i64 x_5, Value.int IntKind.i64 x_6])]) (View.sets V (Addr.add a (9 : Nat)) [Value.slice none (0 : Nat) (0 : Nat)]) fun (r : Value) (V : View) => ∃ (x_11 : Sl), ∃ (x_12 : Int), r = Value.tuple (Array.mk [Value.slice (Sl.a x_11) (Sl.n x_11) (Sl.c x_11), Value.int IntKind.i64 x_12]) ∧ joinP [K.bool] (fun (J : CurP [K.bool]) => br (bif decide (x_9 = (1 : Int)) then decide (x_12 = (8 : Int)) else false) (CallV Tryz.prog (26 : Nat) (Array.mk [Value.pointer x]) V fun (r : Value) (V : View) => ∃ (x : Bool), r = Value.bool x ∧ br x (CallV Tryz.prog (10 : Nat) (Array.mk []) V fun (r : Value) (V : View) => ∃ (x : Bool), r = Value.bool x ∧ J x V) (J false V)) (J false V)) fun (x : Bool) (V : View) => Q (Value.bool x) V)))
def f6_ac : AC := (.seq (.reg ⟨.done, false, [], [], none⟩) (.seq (.reg ⟨.done, false, [], [], none⟩) (.seq (.seq (.reg ⟨.done, false, [], [], none⟩) (.cond none (.seq (.reg ⟨.done, false, [], [], none⟩) .leaf) .leaf)) (.seq (.seq (.reg ⟨.done, false, [], [], none⟩) (.cond none (.seq (.reg ⟨.done, false, [], [], none⟩) .leaf) .leaf)) (.seq (.reg ⟨.done, false, [], [], none⟩) (.seq (.seq (.reg ⟨.done, false, [], [], (some ⟨[36, 37, 38, 39, 40, 41, 42, 43, 44, 45, 46, 47, 48, 49, 50, 51, 52, 53, 54, 55, 56, 57, 58, 59, 60, 61, 62, 63, 64, 65, 66, 67, 68, 69, 70, 71, 72, 73], [(74, .bool)], []⟩)⟩) (.cond none (.seq (.reg ⟨.done, false, [], [], none⟩) .leaf) .leaf)) (.seq (.regn ⟨(.fl 0 (.fl 1 (.fl 2 (.fl 3 (.fl 4 (.fl 5 (.fl 6 (.fl 7 (.fl 8 (.fl 9 (.fl 10 (.fl 11 (.fl 12 (.fl 13 (.alt 14 true false (.alt 15 true false (.alt 16 true false (.alt 17 false false .done .no) .no) .no) (.alt 15 true false (.alt 14 true false (.alt 16 true false (.alt 17 false false .done .no) .no) .no) .no)))))))))))))))), true, [], [], (some ⟨[10, 11, 75, 76, 77, 78, 79, 80, 81, 82, 83, 84, 85, 86, 87, 88], [], []⟩)⟩ [⟨10, 33, [.int .i64, .int .i64]⟩, ⟨11, 33, [.int .i64, .int .i64]⟩]) (.seq (.reg ⟨.done, false, [], [], none⟩) (.seq (.reg ⟨.done, false, [], [], none⟩) (.seq (.reg ⟨.done, false, [], [], none⟩) (.seq (.reg ⟨(.fl 0 (.fl 1 (.fl 2 (.fl 3 (.fl 4 (.alt 5 false false (.fl 6 (.fl 7 (.fl 8 (.fl 9 (.fl 10 .done))))) .no)))))), true, [], [], none⟩) (.seq (.reg ⟨.done, false, [], [], (some ⟨[126, 127, 128, 129, 130, 131, 132, 133, 134, 135, 136, 137, 138], [(8, .bool)], []⟩)⟩) .leaf))))))))))))
theorem f6_x {a0_0 : Int} {a0_1 : Int} {a0_2 : Int} {a0_3 : Int} {a0_4 : Int} {a1 : Sl} {a2 : Int} {a3 : Int} {V : View} {Q : Value → View → Prop} (h : f6_n a0_0 a0_1 a0_2 a0_3 a0_4 a1 a2 a3 V Q) : CallV Tryz.prog 6 ⟨[(.agg ⟨[(.int .i64 a0_0), (.int .i64 a0_1), (.int .i64 a0_2), (.int .i64 a0_3), (.int .i64 a0_4)]⟩), (.slice a1.a a1.n a1.c), (.int .i64 a2), (.int .i64 a3)]⟩ V Q :=
  XF_sound (wr := false) Tryz.checked.mixed (enters_of (fn := Tryz.f6) (by kernel_rfl) (by kernel_rfl) (by kernel_rfl)) (fn := Tryz.f6) (by kernel_rfl) (ac := f6_ac)
    (Eq.mp (show f6_n a0_0 a0_1 a0_2 a0_3 a0_4 a1 a2 a3 V Q = XF Tryz.prog false Tryz.f6 (f6_ac) [(.agg ⟨[(.int .i64 a0_0), (.int .i64 a0_1), (.int .i64 a0_2), (.int .i64 a0_3), (.int .i64 a0_4)]⟩), (.slice a1.a a1.n a1.c), (.int .i64 a2), (.int .i64 a3)] V Q from by kernel_rfl) h)
/-- potsherd/potsherdlaw10.begin -/
def f22_n (a0_0 : Int) (a0_1 : Int) (a0_2 : Int) (a0_3 : Int) (a0_4 : Int) (a1 : Sl) (a2 : Sl) (V : View) (Q : Value → View → Prop) : Prop :=
    ∀ (b : Nat), joinP [K.bool] (fun (J : CurP [K.bool]) => CallV Tryz.prog (9 : Nat) (Array.mk [Value.agg (Array.mk [Value.int IntKind.i64 a0_0, Value.int IntKind.i64 a0_1, Value.int IntKind.i64 a0_2, Value.int IntKind.i64 a0_3, Value.int IntKind.i64 a0_4]), Value.slice (Sl.a a2) (Sl.n a2) (Sl.c a2)]) V fun (r : Value) (V : View) => ∃ (x : Int), r = Value.int IntKind.i64 x ∧ br (bif decide ((0 : Int) < x) then true else decide ((60 : Int) < (↑(Sl.n a1) : Int))) (J true V) (CallV Tryz.prog (63 : Nat) (Array.mk [Value.agg (Array.mk [Value.int IntKind.i64 a0_0, Value.int IntKind.i64 a0_1, Value.int IntKind.i64 a0_2, Value.int IntKind.i64 a0_3, Value.int IntKind.i64 a0_4])]) V fun (r : Value) (V : View) => ∃ (x : Bool), r = Value.bool x ∧ J (!x) V)) fun (x : Bool) (V : View) => br x (Q (Value.pointer none) V) (∀ (b : Nat), loopP [K.int IntKind.i64, K.int IntKind.i64] (fun (x x_1 : Int) (V : View) (J : CurP [K.int IntKind.i64, K.int IntKind.i64]) => br (decide (x_1 < (↑(Sl.n a1) : Int))) ((0 : Int) ≤ x_1 ∧ x_1 < (↑(Sl.n a1) : Int) ∧ ∃ (ad : Addr), Sl.a a1 = some ad ∧ ∃ (x_2 : Int), View.cell? V (Addr.add ad (Int.toNat x_1 * (1 : Nat))) = some (Value.int IntKind.i64 x_2) ∧ joinP [K.bool] (fun (J : CurP [K.bool]) => br (bif decide ((0 : Int) ≤ x_2) then decide (x_2 < a0_0) else false) False (J false V)) fun (x_3 : Bool) (V : View) => joinP [K.int IntKind.i64] (fun (J : CurP [K.int IntKind.i64]) => br x_3 False (J x V)) fun (x : Int) (V : View) => inI IntKind.i64 (x_1 + (1 : Int)) ∧ J x (x_1 + (1 : Int)) V) (CallV Tryz.prog (64 : Nat) (Array.mk [Value.agg (Array.mk [Value.int IntKind.i64 a0_0, Value.int IntKind.i64 a0_1, Value.int IntKind.i64 a0_2, Value.int IntKind.i64 a0_3, Value.int IntKind.i64 a0_4]), Value.int IntKind.i64 x]) V fun (r : Value) (V : View) => ∃ (x_2 : Bool), r = Value.bool x_2 ∧ br (!x_2) (Q (Value.pointer none) V) (CallV Tryz.prog (21 : Nat) (Array.mk [Value.int IntKind.i64 a0_0, Value.int IntKind.i64 a0_1, Value.slice (Sl.a a1) (Sl.n a1) (Sl.c a1)]) V fun (r : Value) (V : View) => ∃ (x_3 : Option Addr), r = Value.pointer x_3 ∧ br (Option.isNone x_3) (∀ (b : Nat), View.see V b = none → Q (Value.pointer (some (Addr.mk b (0 : Nat) none))) (View.put V b (Obj.cells (Array.mk [Value.pointer none, Value.pointer none, Value.int IntKind.i64 (0 : Int), Value.int IntKind.i64 (0 : Int), Value.int IntKind.i64 (0 : Int), Value.int IntKind.i64 (0 : Int), Value.int IntKind.i64 (0 : Int), Value.int IntKind.i64 (0 : Int), Value.slice none (0 : Nat) (0 : Nat), Value.slice none (0 : Nat) (0 : Nat), Value.int IntKind.i64 (0 : Int), Value.int IntKind.i64 (0 : Int), Value.slice none (0 : Nat) (0 : Nat), Value.int IntKind.i64 (0 : Int)]) (60 : Nat)))) (CallV Tryz.prog (14 : Nat) (Array.mk [Value.pointer x_3, Value.agg (Array.mk [Value.int IntKind.i64 a0_0, Value.int IntKind.i64 a0_1, Value.int IntKind.i64 a0_2, Value.int IntKind.i64 a0_3, Value.int IntKind.i64 a0_4]), Value.int IntKind.i64 x, Value.slice none (0 : Nat) (0 : Nat), Value.int IntKind.i64 (0 : Int)]) V fun (r : Value) (V : View) => ∃ (x_4 : Option Addr), ∃ (x_5 : Int), r = Value.tuple (Array.mk [Value.pointer x_4, Value.int IntKind.i64 x_5]) ∧ joinP [K.bool] (fun (J : CurP [K.bool]) => br (!decide (x_5 = (0 : Int))) (J true V) (J (Option.isNone x_4) V)) fun (x_6 : Bool) (V : View) => br x_6 (∀ (b : Nat), View.see V b = none → Q (Value.pointer (some (Addr.mk b (0 : Nat) none))) (View.put V b (Obj.cells (Array.mk [Value.pointer none, Value.pointer none, Value.int IntKind.i64 (0 : Int), Value.int IntKind.i64 (0 : Int), Value.int IntKind.i64 (0 : Int), Value.int IntKind.i64 (0 : Int), Value.int IntKind.i64 (0 : Int), Value.int IntKind.i64 (0 : Int), Value.slice none (0 : Nat) (0 : Nat), Value.slice none (0 : Nat) (0 : Nat), Value.int IntKind.i64 (0 : Int), Value.int IntKind.i64 (0 : Int), Value.slice none (0 : Nat) (0 : Nat), Value.int IntKind.i64 (0 : Int)]) (60 : Nat)))) (∀ (b : Nat), View.see V b = none → Q (Value.pointer (some (Addr.mk b (0 : Nat) none))) (View.put V b (Obj.cells (Array.mk [Value.pointer x_3, Value.pointer x_4, Value.int IntKind.i64 a0_0, Value.int IntKind.i64 a0_1, Value.int IntKind.i64 a0_2, Value.int IntKind.i64 a0_3, Value.int IntKind.i64 a0_4, Value.int IntKind.i64 x, Value.slice none (0 : Nat) (0 : Nat), Value.slice none (0 : Nat) (0 : Nat), Value.int IntKind.i64 (0 : Int), Value.int IntKind.i64 (0 : Int), Value.slice none (0 : Nat) (0 : Nat), Value.int IntKind.i64 (0 : Int)]) (60 : Nat)))))))) ((0 : Int), (0 : Int), ()) V)
def f22_ac : AC := (.seq (.reg ⟨.done, false, [], [], none⟩) (.seq (.seq (.reg ⟨.done, false, [], [], (some ⟨[14, 15, 16, 17, 18, 19, 20, 21, 22, 23, 24, 25, 26], [(27, .bool)], []⟩)⟩) (.cond none (.seq (.reg ⟨.done, false, [], [], none⟩) .leaf) .leaf)) (.seq (.reg ⟨.done, false, [], [], none⟩) (.seq (.reg ⟨.done, false, [], [], none⟩) (.seq (.seq (.reg ⟨.done, false, [], [], none⟩) (.block none (.loop ⟨[10, 31, 32, 33, 34, 35, 36, 37, 38, 39, 40, 41, 42, 43, 44, 45, 46, 47, 48, 49, 50, 51, 52], [(7, .int .i64), (30, .int .i64)], []⟩ (.seq (.reg ⟨.done, false, [], [], none⟩) (.seq (.cond none .leaf .leaf) (.seq (.block none (.seq (.reg ⟨.done, false, [], [], none⟩) (.seq (.reg ⟨.done, false, [], [], (some ⟨[34, 35, 36, 37, 38, 39, 40, 41, 42, 43, 44, 45, 46], [(47, .bool)], []⟩)⟩) (.cond (some ⟨[48, 49, 50, 51], [(7, .int .i64)], []⟩) (.seq (.reg ⟨.done, false, [], [], none⟩) (.reg ⟨.done, false, [], [], none⟩)) .leaf)))) (.reg ⟨.done, false, [], [], none⟩))))))) (.seq (.seq (.reg ⟨.done, false, [], [], none⟩) (.cond none (.seq (.reg ⟨.done, false, [], [], none⟩) .leaf) .leaf)) (.seq (.reg ⟨.done, false, [], [], none⟩) (.seq (.seq (.reg ⟨.done, false, [], [], none⟩) (.cond none (.seq (.reg ⟨.done, false, [(2, 2)], [], none⟩) .leaf) .leaf)) (.seq (.reg ⟨.done, false, [], [], none⟩) (.seq (.seq (.reg ⟨.done, false, [], [], (some ⟨[74, 75, 76, 77, 78], [(79, .bool)], []⟩)⟩) (.cond none (.seq (.reg ⟨.done, false, [(2, 2)], [], none⟩) .leaf) .leaf)) (.seq (.reg ⟨.done, false, [(6, 2)], [], none⟩) .leaf)))))))))))
theorem f22_x {a0_0 : Int} {a0_1 : Int} {a0_2 : Int} {a0_3 : Int} {a0_4 : Int} {a1 : Sl} {a2 : Sl} {V : View} {Q : Value → View → Prop} (h : f22_n a0_0 a0_1 a0_2 a0_3 a0_4 a1 a2 V Q) : CallV Tryz.prog 22 ⟨[(.agg ⟨[(.int .i64 a0_0), (.int .i64 a0_1), (.int .i64 a0_2), (.int .i64 a0_3), (.int .i64 a0_4)]⟩), (.slice a1.a a1.n a1.c), (.slice a2.a a2.n a2.c)]⟩ V Q :=
  XF_sound (wr := false) Tryz.checked.mixed (enters_of (fn := Tryz.f22) (by kernel_rfl) (by kernel_rfl) (by kernel_rfl)) (fn := Tryz.f22) (by kernel_rfl) (ac := f22_ac)
    (Eq.mp (show f22_n a0_0 a0_1 a0_2 a0_3 a0_4 a1 a2 V Q = XF Tryz.prog false Tryz.f22 (f22_ac) [(.agg ⟨[(.int .i64 a0_0), (.int .i64 a0_1), (.int .i64 a0_2), (.int .i64 a0_3), (.int .i64 a0_4)]⟩), (.slice a1.a a1.n a1.c), (.slice a2.a a2.n a2.c)] V Q from by kernel_rfl) h)
/-- (*potsherd/potsherdlaw10.state).put -/
def f23_n (a0 : Option Addr) (a1_0 : Int) (a1_1 : Int) (a1_2 : Int) (a1_3 : Int) (a1_4 : Sl) (a1_5 : Sl) (V : View) (Q : Value → View → Prop) : Prop :=
    ∀ (b : Nat), joinP [K.int IntKind.i64, K.int IntKind.i64, K.int IntKind.i64, K.int IntKind.i64] (fun (J : CurP [K.int IntKind.i64, K.int IntKind.i64, K.int IntKind.i64, K.int IntKind.i64]) => True ∧ ∃ (S : View), View.Le S V ∧ ∃ (a : Addr), a0 = some a ∧ ∃ (x : Option Addr), View.cell? S (Addr.add a (0 : Nat)) = some (Value.pointer x) ∧ ∃ (a : Addr), a0 = some a ∧ ∃ (x_1 : Option Addr), View.cell? S (Addr.add a (1 : Nat)) = some (Value.pointer x_1) ∧ (CallV Tryz.prog (65 : Nat) (Array.mk [Value.pointer x]) V fun (r : Value) (V : View) => ∃ (x : Int), ∃ (x_2 : Int), ∃ (x_3 : Int), r = Value.agg (Array.mk [Value.int IntKind.i64 x, Value.int IntKind.i64 x_2, Value.int IntKind.i64 x_3]) ∧ View.Le S V ∧ (CallV Tryz.prog (19 : Nat) (Array.mk [Value.pointer x_1]) V fun (r : Value) (V : View) => ∃ (x_4 : Int), r = Value.int IntKind.i64 x_4 ∧ View.Le S V ∧ ∀ (b : Nat), View.Le S V ∧ J x_4 x x_2 x_3 V) ∧ ∀ (b : Nat), View.Le S V ∧ CallV Tryz.prog (19 : Nat) (Array.mk [Value.pointer x_1]) V fun (r : Value) (V : View) => ∃ (x_4 : Int), r = Value.int IntKind.i64 x_4 ∧ View.Le S V ∧ J x_4 x x_2 x_3 V) ∧ ∀ (b : Nat), View.Le S V ∧ CallV Tryz.prog (65 : Nat) (Array.mk [Value.pointer x]) V fun (r : Value) (V : View) => ∃ (x : Int), ∃ (x_2 : Int), ∃ (x_3 : Int), r = Value.agg (Array.mk [Value.int IntKind.i64 x, Value.int IntKind.i64 x_2, Value.int IntKind.i64 x_3]) ∧ View.Le S V ∧ CallV Tryz.prog (19 : Nat) (Array.mk [Value.pointer x_1]) V fun (r : Value) (V : View) => ∃ (x_4 : Int), r = Value.int IntKind.i64 x_4 ∧ View.Le S V ∧ J x_4 x x_2 x_3 V) fun (x x_1 x_2 x_3 : Int) (V : View) => ∀ (b : Nat), joinP [K.int IntKind.i64, K.int IntKind.i64, K.sl] (fun (J : CurP [K.int IntKind.i64, K.int IntKind.i64, K.sl]) => True ∧ ∃ (S : View), View.Le S V ∧ ∃ (a : Addr), a0 = some a ∧ ∃ (x : Option Addr), View.cell? S (Addr.add a (1 : Nat)) = some (Value.pointer x) ∧ (CallV Tryz.prog (18 : Nat) (Array.mk [Value.pointer x]) V fun (r : Value) (V : View) => ∃ (x : Int), r = Value.int IntKind.i64 x ∧ View.Le S V ∧ inI IntKind.i64 (x + (1 : Int)) ∧ ∀ (b : Nat), View.Le S V ∧ J a1_3 (x + (1 : Int)) (Sl.mk (Sl.a a1_4) (Sl.n a1_4) (Sl.c a1_4)) V) ∧ ∀ (b : Nat), View.Le S V ∧ CallV Tryz.prog (18 : Nat) (Array.mk [Value.pointer x]) V fun (r : Value) (V : View) => ∃ (x : Int), r = Value.int IntKind.i64 x ∧ View.Le S V ∧ inI IntKind.i64 (x + (1 : Int)) ∧ J a1_3 (x + (1 : Int)) (Sl.mk (Sl.a a1_4) (Sl.n a1_4) (Sl.c a1_4)) V) fun (x_4 x_5 : Int) (x_6 : Sl) (V : View) => ∀ (b : Nat), joinP [K.int IntKind.i64, K.int IntKind.i64, K.int IntKind.i64] (fun (J : CurP [K.int IntKind.i64, K.int IntKind.i64, K.int IntKind.i64]) => True ∧ ∃ (S : View), View.Le S V ∧ ∃ (a : Addr), a0 = some a ∧ ∃ (x : Option Addr), View.cell? S (Addr.add a (1 : Nat)) = some (Value.pointer x) ∧ (CallV Tryz.prog (12 : Nat) (Array.mk [Value.pointer x, Value.int IntKind.i64 a1_3, Value.slice (Sl.a a1_4) (Sl.n a1_4) (Sl.c a1_4)]) V fun (r : Value) (V : View) => ∃ (x : Int), ∃ (x_7 : Int), ∃ (x_8 : Int), r = Value.tuple (Array.mk [Value.agg (Array.mk [Value.int IntKind.i64 x, Value.int IntKind.i64 x_7]), Value.int IntKind.i64 x_8]) ∧ View.Le S V ∧ ∀ (b : Nat), View.Le S V ∧ J x_8 x x_7 V) ∧ ∀ (b : Nat), View.Le S V ∧ CallV Tryz.prog (12 : Nat) (Array.mk [Value.pointer x, Value.int IntKind.i64 a1_3, Value.slice (Sl.a a1_4) (Sl.n a1_4) (Sl.c a1_4)]) V fun (r : Value) (V : View) => ∃ (x : Int), ∃ (x_7 : Int), ∃ (x_8 : Int), r = Value.tuple (Array.mk [Value.agg (Array.mk [Value.int IntKind.i64 x, Value.int IntKind.i64 x_7]), Value.int IntKind.i64 x_8]) ∧ View.Le S V ∧ J x_8 x x_7 V) fun (x_7 x_8 x_9 : Int) (V : View) => ∀ (b : Nat), joinP [K.bool] (fun (J : CurP [K.bool]) => br (decide (a1_3 = (0 : Int))) (J true V) (CallV Tryz.prog (66 : Nat) (Array.mk [Value.agg (Array.mk [Value.int IntKind.i64 x_4, Value.int IntKind.i64 x_5, Value.slice (Sl.a x_6) (Sl.n x_6) (Sl.c x_6)])]) V fun (r : Value) (V : View) => ∃ (x : Bool), r = Value.bool x ∧ J (!x) V)) fun (x_10 : Bool) (V : View) => br x_10 (joinP [K.bool] (fun (J : CurP [K.bool]) => br (decide (x_7 = (1 : Int))) (True ∧ J (decide (x_8 = (0 : Int)) && (decide (x_9 = (0 : Int)) && true)) V) (J false V)) fun (x : Bool) (V : View) => Q (Value.bool x) V) (True ∧ ∃ (S : View), View.Le S V ∧ ∃ (a : Addr), a0 = some a ∧ ∃ (x_11 : Sl), View.cell? S (Addr.add a (8 : Nat)) = some (Value.slice (Sl.a x_11) (Sl.n x_11) (Sl.c x_11)) ∧ ∃ (a : Addr), a0 = some a ∧ ∃ (x_12 : Sl), View.cell? S (Addr.add a (9 : Nat)) = some (Value.slice (Sl.a x_12) (Sl.n x_12) (Sl.c x_12)) ∧ inI IntKind.i64 ((↑(Sl.n x_11) : Int) + (↑(Sl.n x_12) : Int)) ∧ ∃ (a : Addr), a0 = some a ∧ ∃ (x_13 : Int), View.cell? S (Addr.add (Addr.add a (2 : Nat)) (3 : Nat)) = some (Value.int IntKind.i64 x_13) ∧ inI IntKind.i64 (x_13 + (1 : Int)) ∧ inI IntKind.i64 (x_13 + (1 : Int) + (5 : Int)) ∧ br (decide (x_13 + (1 : Int) + (5 : Int) ≤ (↑(Sl.n x_11) : Int) + (↑(Sl.n x_12) : Int))) (joinP [K.bool] (fun (J : CurP [K.bool]) => br (decide (x_7 = (18 : Int))) (True ∧ J (decide (x_8 = (0 : Int)) && (decide (x_9 = (0 : Int)) && true)) V) (J false V)) fun (x : Bool) (V : View) => Q (Value.bool x) V) (br (decide (x_7 = (6 : Int))) (∃ (a : Addr), a0 = some a ∧ canSet V (Addr.add a (9 : Nat)) (1 : Nat) ∧ joinP [K.bool] (fun (J : CurP [K.bool]) => ∃ (a_1 : Addr), a0 = some a_1 ∧ ∃ (x_14 : Option Addr), View.cell? (View.sets V (Addr.add a (9 : Nat)) [Value.slice none (0 : Nat) (0 : Nat)]) (Addr.add a_1 (1 : Nat)) = some (Value.pointer x_14) ∧ CallV Tryz.prog (20 : Nat) (Array.mk [Value.pointer x_14]) (View.sets V (Addr.add a (9 : Nat)) [Value.slice none (0 : Nat) (0 : Nat)]) fun (r : Value) (V : View) => ∃ (x_15 : Bool), r = Value.bool x_15 ∧ br x_15 (True ∧ br (decide (x_8 = (0 : Int)) && (decide (x_9 = (0 : Int)) && true)) (∃ (a : Addr), a0 = some a ∧ ∃ (x_16 : Int), View.cell? V (Addr.add (Addr.add a (2 : Nat)) (2 : Nat)) = some (Value.int IntKind.i64 x_16) ∧ br (decide (x_16 < x)) (J true V) (CallV Tryz.prog (67 : Nat) (Array.mk [Value.pointer a0, Value.agg (Array.mk [Value.int IntKind.i64 x_1, Value.int IntKind.i64 x_2, Value.int IntKind.i64 x_3]), Value.int IntKind.i64 x]) V fun (r : Value) (V : View) => ∃ (x : Bool), r = Value.bool x ∧ J x V)) (J false V)) (J false V)) fun (x : Bool) (V : View) => Q (Value.bool x) V) (br (decide (x_7 = (2 : Int))) (∃ (a : Addr), a0 = some a ∧ canSet V (Addr.add a (9 : Nat)) (1 : Nat) ∧ ∃ (a_1 : Addr), a0 = some a_1 ∧ ∃ (x : Option Addr), View.cell? (View.sets V (Addr.add a (9 : Nat)) [Value.slice none (0 : Nat) (0 : Nat)]) (Addr.add a_1 (0 : Nat)) = some (Value.pointer x) ∧ CallV Tryz.prog (33 : Nat) (Array.mk [Value.pointer x]) (View.sets V (Addr.add a (9 : Nat)) [Value.slice none (0 : Nat) (0 : Nat)]) fun (r : Value) (V : View) => ∃ (x : Bool), r = Value.bool x ∧ Q (Value.bool x) V) (True ∧ ∃ (S : View), View.Le S V ∧ ∃ (a : Addr), a0 = some a ∧ ∃ (x_14 : Sl), View.cell? S (Addr.add a (9 : Nat)) = some (Value.slice (Sl.a x_14) (Sl.n x_14) (Sl.c x_14)) ∧ newB V (Obj.cells (Array.mk []) (5 : Nat)) fun (r : Nat) (V : View) => View.Le S V ∧ apV V (5 : Nat) (1 : Nat) (1 : Nat) [Value.int IntKind.u8 (0 : Int)] (Sl.mk (some (Addr.mk r (0 : Nat) none)) (0 : Nat) (0 : Nat)) (Value.slice (Sl.a a1_4) (Sl.n a1_4) (Sl.c a1_4)) fun (s : Sl) (V : View) => View.Le S V ∧ newB V (Obj.cells (Array.mk (putL [Value.int IntKind.i64 (0 : Int), Value.int IntKind.i64 (0 : Int), Value.slice none (0 : Nat) (0 : Nat)] (0 : Nat) [Value.int IntKind.i64 x_8, Value.int IntKind.i64 x_9, Value.slice (Sl.a s) (Sl.n s) (Sl.c s)])) (58 : Nat)) fun (r : Nat) (V : View) => View.Le S V ∧ apV V (58 : Nat) (3 : Nat) (40 : Nat) [Value.int IntKind.i64 (0 : Int), Value.int IntKind.i64 (0 : Int), Value.slice none (0 : Nat) (0 : Nat)] (Sl.mk (Sl.a x_14) (Sl.n x_14) (Sl.c x_14)) (Value.slice (some (Addr.mk r (0 : Nat) none)) (1 : Nat) (1 : Nat)) fun (s : Sl) (V : View) => ∃ (a : Addr), a0 = some a ∧ canSet V (Addr.add a (9 : Nat)) (nat_lit 1) ∧ joinP [K.bool] (fun (J : CurP [K.bool]) => br (decide (x_7 = (0 : Int))) (True ∧ br (decide (x_8 = x_4) && (decide (x_9 = x_5) && true)) (∃ (a_1 : Addr), a0 = some a_1 ∧ ∃ (x_15 : Option Addr), View.cell? (View.sets V (Addr.add a (9 : Nat)) [Value.slice (Sl.a s) (Sl.n s) (Sl.c s)]) (Addr.add a_1 (1 : Nat)) = some (Value.pointer x_15) ∧ CallV Tryz.prog (20 : Nat) (Array.mk [Value.pointer x_15]) (View.sets V (Addr.add a (9 : Nat)) [Value.slice (Sl.a s) (Sl.n s) (Sl.c s)]) fun (r : Value) (V : View) => ∃ (x_16 : Bool), r = Value.bool x_16 ∧ br (!x_16) (CallV Tryz.prog (67 : Nat) (Array.mk [Value.pointer a0, Value.agg (Array.mk [Value.int IntKind.i64 x_1, Value.int IntKind.i64 x_2, Value.int IntKind.i64 x_3]), Value.int IntKind.i64 x]) V fun (r : Value) (V : View) => ∃ (x : Bool), r = Value.bool x ∧ J x V) (J false V)) (J false (View.sets V (Addr.add a (9 : Nat)) [Value.slice (Sl.a s) (Sl.n s) (Sl.c s)]))) (J false (View.sets V (Addr.add a (9 : Nat)) [Value.slice (Sl.a s) (Sl.n s) (Sl.c s)]))) fun (x : Bool) (V : View) => Q (Value.bool x) V))))
def f23_ac : AC := (.seq (.reg ⟨.done, false, [], [], none⟩) (.seq (.regn ⟨(.fl 0 (.fl 1 (.fl 2 (.fl 3 (.fl 5 (.fl 6 (.fl 7 (.fl 8 (.alt 4 true false (.alt 9 true false (.alt 10 true false (.alt 11 false false (.fl 12 .done) .no) .no) (.alt 10 true false (.alt 9 true false (.alt 11 false false (.fl 12 .done) .no) .no) .no)) (.alt 10 true false (.alt 4 true false (.alt 9 true false (.alt 11 false false (.fl 12 .done) .no) .no) .no) .no)))))))))), true, [], [], (some ⟨[5, 10, 11, 12, 13, 14, 15, 16, 17, 18, 19], [(6, .int .i64)], []⟩)⟩ [⟨5, 111, [.int .i64, .int .i64, .int .i64]⟩]) (.seq (.regn ⟨(.fl 0 (.fl 1 (.fl 2 (.fl 3 (.fl 4 (.fl 5 (.fl 8 (.fl 9 (.alt 6 true false (.fl 7 (.fl 10 (.alt 11 true false (.alt 12 false false .done .no) .no))) (.alt 11 true false (.alt 6 true false (.fl 7 (.fl 10 (.alt 12 false false .done .no))) .no) .no)))))))))), true, [], [], (some ⟨[7, 20, 21, 22, 23, 24, 25, 26, 27, 28, 29, 30], [], []⟩)⟩ [⟨7, 77, [.int .i64, .int .i64, .sl]⟩]) (.seq (.regn ⟨(.fl 0 (.fl 1 (.fl 2 (.fl 3 (.fl 4 (.fl 5 (.fl 6 (.fl 7 (.alt 8 true false (.fl 9 (.fl 10 (.fl 11 (.alt 12 true false (.alt 13 false false (.fl 14 .done) .no) .no)))) (.alt 12 true false (.alt 8 true false (.fl 9 (.fl 10 (.fl 11 (.alt 13 false false (.fl 14 .done) .no)))) .no) .no)))))))))), true, [], [], (some ⟨[8, 31, 32, 33, 34, 35, 36, 37, 38, 39, 40, 41, 42], [(9, .int .i64)], []⟩)⟩ [⟨8, 33, [.int .i64, .int .i64]⟩]) (.seq (.block none (.seq (.reg ⟨.done, false, [], [], (some ⟨[44, 45, 46, 47, 48, 49, 50, 51], [(43, .bool)], []⟩)⟩) (.cond none (.seq (.reg ⟨.done, false, [], [], (some ⟨[52, 53, 54, 55, 56, 57, 58], [(4, .bool)], []⟩)⟩) .leaf) (.seq (.reg ⟨(.fl 0 (.fl 1 (.fl 2 (.fl 3 (.fl 4 (.fl 5 (.fl 6 (.fl 7 (.fl 8 (.fl 9 (.fl 10 (.fl 11 (.fl 12 (.fl 13 (.fl 14 (.fl 15 (.fl 16 (.fl 17 (.fl 18 (.fl 19 .done)))))))))))))))))))), true, [], [], none⟩) (.cond none (.seq (.reg ⟨.done, false, [], [], (some ⟨[79, 80, 81, 82, 83, 84, 85], [(4, .bool)], []⟩)⟩) .leaf) (.seq (.reg ⟨.done, false, [], [], none⟩) (.cond none (.seq (.reg ⟨.done, false, [], [], none⟩) (.seq (.reg ⟨.done, false, [], [], (some ⟨[92, 93, 94, 95, 96, 97, 98, 99, 100, 101, 102, 103, 104, 105, 106, 107, 108, 109, 110, 111, 112, 113, 114, 115, 116], [(4, .bool)], []⟩)⟩) .leaf)) (.seq (.reg ⟨.done, false, [], [], none⟩) (.cond none (.seq (.reg ⟨.done, false, [], [], none⟩) (.seq (.reg ⟨.done, false, [], [], none⟩) .leaf)) .leaf))))))))) (.seq (.reg ⟨(.fl 0 (.fl 1 (.fl 2 (.fl 3 (.fl 4 (.fl 5 (.fl 7 (.fl 8 (.alt 6 true false (.alt 9 true false (.fl 10 (.alt 11 true false (.alt 12 false false (.fl 13 (.fl 14 (.alt 15 false false .done .no))) .no) .no)) .no) .no))))))))), true, [], [], none⟩) (.seq (.reg ⟨.done, false, [], [], (some ⟨[143, 144, 145, 146, 147, 148, 149, 150, 151, 152, 153, 154, 155, 156, 157, 158, 159, 160, 161, 162, 163, 164, 165, 166, 167], [(4, .bool)], []⟩)⟩) .leaf)))))))
theorem f23_x {a0 : Option Addr} {a1_0 : Int} {a1_1 : Int} {a1_2 : Int} {a1_3 : Int} {a1_4 : Sl} {a1_5 : Sl} {V : View} {Q : Value → View → Prop} (h : f23_n a0 a1_0 a1_1 a1_2 a1_3 a1_4 a1_5 V Q) : CallV Tryz.prog 23 ⟨[(.pointer a0), (.agg ⟨[(.int .i64 a1_0), (.int .i64 a1_1), (.int .i64 a1_2), (.int .i64 a1_3), (.slice a1_4.a a1_4.n a1_4.c), (.slice a1_5.a a1_5.n a1_5.c)]⟩)]⟩ V Q :=
  XF_sound (wr := false) Tryz.checked.mixed (enters_of (fn := Tryz.f23) (by kernel_rfl) (by kernel_rfl) (by kernel_rfl)) (fn := Tryz.f23) (by kernel_rfl) (ac := f23_ac)
    (Eq.mp (show f23_n a0 a1_0 a1_1 a1_2 a1_3 a1_4 a1_5 V Q = XF Tryz.prog false Tryz.f23 (f23_ac) [(.pointer a0), (.agg ⟨[(.int .i64 a1_0), (.int .i64 a1_1), (.int .i64 a1_2), (.int .i64 a1_3), (.slice a1_4.a a1_4.n a1_4.c), (.slice a1_5.a a1_5.n a1_5.c)]⟩)] V Q from by kernel_rfl) h)
/-- (*potsherd/potsherdlaw10.state).seal -/
def f24_n (a0 : Option Addr) (a1_0 : Int) (a1_1 : Int) (a1_2 : Int) (a1_3 : Int) (a1_4 : Sl) (a1_5 : Sl) (V : View) (Q : Value → View → Prop) : Prop :=
    ∀ (b : Nat), joinP [K.int IntKind.i64, K.int IntKind.i64, K.int IntKind.i64, K.int IntKind.i64] (fun (J : CurP [K.int IntKind.i64, K.int IntKind.i64, K.int IntKind.i64, K.int IntKind.i64]) => True ∧ ∃ (S : View), View.Le S V ∧ ∃ (a : Addr), a0 = some a ∧ ∃ (x : Option Addr), View.cell? S (Addr.add a (0 : Nat)) = some (Value.pointer x) ∧ ∃ (a : Addr), a0 = some a ∧ ∃ (x_1 : Option Addr), View.cell? S (Addr.add a (1 : Nat)) = some (Value.pointer x_1) ∧ (CallV Tryz.prog (65 : Nat) (Array.mk [Value.pointer x]) V fun (r : Value) (V : View) => ∃ (x : Int), ∃ (x_2 : Int), ∃ (x_3 : Int), r = Value.agg (Array.mk [Value.int IntKind.i64 x, Value.int IntKind.i64 x_2, Value.int IntKind.i64 x_3]) ∧ View.Le S V ∧ (CallV Tryz.prog (19 : Nat) (Array.mk [Value.pointer x_1]) V fun (r : Value) (V : View) => ∃ (x_4 : Int), r = Value.int IntKind.i64 x_4 ∧ View.Le S V ∧ ∀ (b : Nat), View.Le S V ∧ J x_4 x x_2 x_3 V) ∧ ∀ (b : Nat), View.Le S V ∧ CallV Tryz.prog (19 : Nat) (Array.mk [Value.pointer x_1]) V fun (r : Value) (V : View) => ∃ (x_4 : Int), r = Value.int IntKind.i64 x_4 ∧ View.Le S V ∧ J x_4 x x_2 x_3 V) ∧ ∀ (b : Nat), View.Le S V ∧ CallV Tryz.prog (65 : Nat) (Array.mk [Value.pointer x]) V fun (r : Value) (V : View) => ∃ (x : Int), ∃ (x_2 : Int), ∃ (x_3 : Int), r = Value.agg (Array.mk [Value.int IntKind.i64 x, Value.int IntKind.i64 x_2, Value.int IntKind.i64 x_3]) ∧ View.Le S V ∧ CallV Tryz.prog (19 : Nat) (Array.mk [Value.pointer x_1]) V fun (r : Value) (V : View) => ∃ (x_4 : Int), r = Value.int IntKind.i64 x_4 ∧ View.Le S V ∧ J x_4 x x_2 x_3 V) fun (x x_1 x_2 x_3 : Int) (V : View) => ∀ (b : Nat), True ∧ ∃ (S : View), View.Le S V ∧ ∃ (a : Addr), a0 = some a ∧ ∃ (x_4 : Sl), View.cell? S (Addr.add a (8 : Nat)) = some (Value.slice (Sl.a x_4) (Sl.n x_4) (Sl.c x_4)) ∧ ∃ (a : Addr), a0 = some a ∧ ∃ (x_5 : Sl), View.cell? S (Addr.add a (9 : Nat)) = some (Value.slice (Sl.a x_5) (Sl.n x_5) (Sl.c x_5)) ∧ ∃ (a : Addr), a0 = some a ∧ ∃ (x_6 : Int), View.cell? S (Addr.add (Addr.add a (2 : Nat)) (3 : Nat)) = some (Value.int IntKind.i64 x_6) ∧ CallV Tryz.prog (32 : Nat) (Array.mk [Value.slice (Sl.a x_4) (Sl.n x_4) (Sl.c x_4), Value.slice (Sl.a x_5) (Sl.n x_5) (Sl.c x_5), Value.slice (Sl.a a1_5) (Sl.n a1_5) (Sl.c a1_5), Value.int IntKind.i64 x_6]) V fun (r : Value) (V : View) => ∃ (x_7 : Sl), r = Value.slice (Sl.a x_7) (Sl.n x_7) (Sl.c x_7) ∧ ∃ (a : Addr), a0 = some a ∧ ∃ (x_8 : Option Addr), View.cell? V (Addr.add a (1 : Nat)) = some (Value.pointer x_8) ∧ CallV Tryz.prog (18 : Nat) (Array.mk [Value.pointer x_8]) V fun (r : Value) (V : View) => ∃ (x_9 : Int), r = Value.int IntKind.i64 x_9 ∧ inI IntKind.i64 (x_9 + (1 : Int)) ∧ True ∧ ∃ (S : View), View.Le S V ∧ ∃ (a : Addr), a0 = some a ∧ ∃ (x_10 : Option Addr), View.cell? S (Addr.add a (1 : Nat)) = some (Value.pointer x_10) ∧ CallV Tryz.prog (68 : Nat) (Array.mk [Value.slice (Sl.a x_7) (Sl.n x_7) (Sl.c x_7)]) V fun (r : Value) (V : View) => ∃ (x_11 : Sl), r = Value.slice (Sl.a x_11) (Sl.n x_11) (Sl.c x_11) ∧ View.Le S V ∧ CallV Tryz.prog (15 : Nat) (Array.mk [Value.pointer x_10, Value.slice (Sl.a a1_4) (Sl.n a1_4) (Sl.c a1_4), Value.slice (Sl.a x_11) (Sl.n x_11) (Sl.c x_11)]) V fun (r : Value) (V : View) => ∃ (x_12 : Int), r = Value.int IntKind.i64 x_12 ∧ ∃ (a : Addr), a0 = some a ∧ canSet V (Addr.add a (9 : Nat)) (1 : Nat) ∧ br (decide (x_12 = (6 : Int))) (joinP [K.bool] (fun (J : CurP [K.bool]) => ∃ (a_1 : Addr), a0 = some a_1 ∧ ∃ (x_13 : Option Addr), View.cell? (View.sets V (Addr.add a (9 : Nat)) [Value.slice none (0 : Nat) (0 : Nat)]) (Addr.add a_1 (1 : Nat)) = some (Value.pointer x_13) ∧ CallV Tryz.prog (20 : Nat) (Array.mk [Value.pointer x_13]) (View.sets V (Addr.add a (9 : Nat)) [Value.slice none (0 : Nat) (0 : Nat)]) fun (r : Value) (V : View) => ∃ (x_14 : Bool), r = Value.bool x_14 ∧ br x_14 (∃ (a : Addr), a0 = some a ∧ ∃ (x_15 : Int), View.cell? V (Addr.add (Addr.add a (2 : Nat)) (2 : Nat)) = some (Value.int IntKind.i64 x_15) ∧ br (decide (x_15 < x)) (J true V) (CallV Tryz.prog (67 : Nat) (Array.mk [Value.pointer a0, Value.agg (Array.mk [Value.int IntKind.i64 x_1, Value.int IntKind.i64 x_2, Value.int IntKind.i64 x_3]), Value.int IntKind.i64 x]) V fun (r : Value) (V : View) => ∃ (x : Bool), r = Value.bool x ∧ J x V)) (J false V)) fun (x : Bool) (V : View) => Q (Value.bool x) V) (br (decide (x_12 = (2 : Int))) (newB (View.sets V (Addr.add a (9 : Nat)) [Value.slice none (0 : Nat) (0 : Nat)]) (Obj.cells (Array.mk []) (5 : Nat)) fun (r : Nat) (V : View) => apV V (5 : Nat) (1 : Nat) (1 : Nat) [Value.int IntKind.u8 (0 : Int)] (Sl.mk (some (Addr.mk r (0 : Nat) none)) (0 : Nat) (0 : Nat)) (Value.slice (Sl.a a1_4) (Sl.n a1_4) (Sl.c a1_4)) fun (s : Sl) (V : View) => ∃ (a : Addr), a0 = some a ∧ canSet V (Addr.add a (10 : Nat)) (Nat.succ (Nat.succ (nat_lit 1))) ∧ ∃ (a_1 : Addr), a0 = some a_1 ∧ ∃ (x : Option Addr), View.cell? (View.sets V (Addr.add a (10 : Nat)) [Value.int IntKind.i64 (0 : Int), Value.int IntKind.i64 (x_9 + (1 : Int)), Value.slice (Sl.a s) (Sl.n s) (Sl.c s)]) (Addr.add a_1 (0 : Nat)) = some (Value.pointer x) ∧ CallV Tryz.prog (33 : Nat) (Array.mk [Value.pointer x]) (View.sets V (Addr.add a (10 : Nat)) [Value.int IntKind.i64 (0 : Int), Value.int IntKind.i64 (x_9 + (1 : Int)), Value.slice (Sl.a s) (Sl.n s) (Sl.c s)]) fun (r : Value) (V : View) => ∃ (x : Bool), r = Value.bool x ∧ Q (Value.bool x) V) (br (decide (x_12 = (0 : Int))) (newB (View.sets V (Addr.add a (9 : Nat)) [Value.slice none (0 : Nat) (0 : Nat)]) (Obj.cells (Array.mk []) (5 : Nat)) fun (r : Nat) (V : View) => apV V (5 : Nat) (1 : Nat) (1 : Nat) [Value.int IntKind.u8 (0 : Int)] (Sl.mk (some (Addr.mk r (0 : Nat) none)) (0 : Nat) (0 : Nat)) (Value.slice (Sl.a a1_4) (Sl.n a1_4) (Sl.c a1_4)) fun (s : Sl) (V : View) => newB V (Obj.cells (Array.mk (putL [Value.int IntKind.i64 (0 : Int), Value.int IntKind.i64 (0 : Int), Value.slice none (0 : Nat) (0 : Nat)] (0 : Nat) [Value.int IntKind.i64 (0 : Int), Value.int IntKind.i64 (x_9 + (1 : Int)), Value.slice (Sl.a s) (Sl.n s) (Sl.c s)])) (58 : Nat)) fun (r : Nat) (V : View) => apV V (58 : Nat) (3 : Nat) (40 : Nat) [Value.int IntKind.i64 (0 : Int), Value.int IntKind.i64 (0 : Int), Value.slice none (0 : Nat) (0 : Nat)] (Sl.mk (Sl.a x_7) (Sl.n x_7) (Sl.c x_7)) (Value.slice (some (Addr.mk r (0 : Nat) none)) (1 : Nat) (1 : Nat)) fun (s : Sl) (V : View) => ∃ (a : Addr), a0 = some a ∧ canSet V (Addr.add a (8 : Nat)) (nat_lit 1) ∧ joinP [K.bool] (fun (J : CurP [K.bool]) => ∃ (a_1 : Addr), a0 = some a_1 ∧ ∃ (x_13 : Option Addr), View.cell? (View.sets V (Addr.add a (8 : Nat)) [Value.slice (Sl.a s) (Sl.n s) (Sl.c s)]) (Addr.add a_1 (1 : Nat)) = some (Value.pointer x_13) ∧ CallV Tryz.prog (20 : Nat) (Array.mk [Value.pointer x_13]) (View.sets V (Addr.add a (8 : Nat)) [Value.slice (Sl.a s) (Sl.n s) (Sl.c s)]) fun (r : Value) (V : View) => ∃ (x_14 : Bool), r = Value.bool x_14 ∧ br (!x_14) (∃ (a : Addr), a0 = some a ∧ ∃ (x_15 : Option Addr), View.cell? V (Addr.add a (1 : Nat)) = some (Value.pointer x_15) ∧ CallV Tryz.prog (18 : Nat) (Array.mk [Value.pointer x_15]) V fun (r : Value) (V : View) => ∃ (x_16 : Int), r = Value.int IntKind.i64 x_16 ∧ br (decide (x_16 = x_9 + (1 : Int))) (CallV Tryz.prog (67 : Nat) (Array.mk [Value.pointer a0, Value.agg (Array.mk [Value.int IntKind.i64 x_1, Value.int IntKind.i64 x_2, Value.int IntKind.i64 x_3]), Value.int IntKind.i64 x]) V fun (r : Value) (V : View) => ∃ (x : Bool), r = Value.bool x ∧ J x V) (J false V)) (J false V)) fun (x : Bool) (V : View) => Q (Value.bool x) V) (Q (Value.bool false) (View.sets V (Addr.add a (9 : Nat)) [Value.slice none (0 : Nat) (0 : Nat)]))))
def f24_ac : AC := (.seq (.reg ⟨.done, false, [], [], none⟩) (.seq (.regn ⟨(.fl 0 (.fl 1 (.fl 2 (.fl 3 (.fl 5 (.fl 6 (.fl 7 (.fl 8 (.alt 4 true false (.alt 9 true false (.alt 10 true false (.alt 11 false false (.fl 12 .done) .no) .no) (.alt 10 true false (.alt 9 true false (.alt 11 false false (.fl 12 .done) .no) .no) .no)) (.alt 10 true false (.alt 4 true false (.alt 9 true false (.alt 11 false false (.fl 12 .done) .no) .no) .no) .no)))))))))), true, [], [], (some ⟨[5, 10, 11, 12, 13, 14, 15, 16, 17, 18, 19], [(6, .int .i64)], []⟩)⟩ [⟨5, 111, [.int .i64, .int .i64, .int .i64]⟩]) (.seq (.reg ⟨(.fl 0 (.fl 1 (.fl 2 (.fl 3 (.fl 4 (.fl 5 (.fl 6 (.fl 7 (.fl 8 (.fl 9 (.fl 10 (.fl 11 (.fl 12 (.fl 13 (.fl 14 (.alt 15 false false (.fl 16 .done) .no)))))))))))))))), true, [], [], none⟩) (.seq (.reg ⟨.done, false, [], [], none⟩) (.seq (.reg ⟨(.fl 0 (.fl 1 (.fl 2 (.fl 3 (.fl 4 (.fl 5 (.fl 6 (.alt 7 true false (.alt 8 false false (.fl 9 .done) .no) .no)))))))), true, [], [], none⟩) (.seq (.reg ⟨.done, false, [], [], none⟩) (.seq (.seq (.reg ⟨.done, false, [], [], none⟩) (.block none (.seq (.reg ⟨.done, false, [], [], none⟩) (.cond none (.seq (.reg ⟨.done, false, [], [], (some ⟨[57, 58, 59, 60, 61, 62, 63, 64, 65, 66, 67, 68, 69, 70, 71, 72, 73, 74, 75, 76], [(4, .bool)], []⟩)⟩) .leaf) (.seq (.reg ⟨.done, false, [], [], none⟩) (.cond none (.seq (.reg ⟨.done, false, [], [], none⟩) (.seq (.reg ⟨.done, false, [], [], none⟩) .leaf)) (.seq (.reg ⟨.done, false, [], [], none⟩) (.cond none (.seq (.reg ⟨.done, false, [], [], none⟩) (.seq (.reg ⟨.done, false, [], [], (some ⟨[109, 110, 111, 112, 113, 114, 115, 116, 117, 118, 119, 120, 121, 122, 123, 124, 125, 126, 127, 128, 129], [(4, .bool)], []⟩)⟩) .leaf)) .leaf)))))))) (.seq (.reg ⟨.done, false, [], [], none⟩) .leaf))))))))
theorem f24_x {a0 : Option Addr} {a1_0 : Int} {a1_1 : Int} {a1_2 : Int} {a1_3 : Int} {a1_4 : Sl} {a1_5 : Sl} {V : View} {Q : Value → View → Prop} (h : f24_n a0 a1_0 a1_1 a1_2 a1_3 a1_4 a1_5 V Q) : CallV Tryz.prog 24 ⟨[(.pointer a0), (.agg ⟨[(.int .i64 a1_0), (.int .i64 a1_1), (.int .i64 a1_2), (.int .i64 a1_3), (.slice a1_4.a a1_4.n a1_4.c), (.slice a1_5.a a1_5.n a1_5.c)]⟩)]⟩ V Q :=
  XF_sound (wr := false) Tryz.checked.mixed (enters_of (fn := Tryz.f24) (by kernel_rfl) (by kernel_rfl) (by kernel_rfl)) (fn := Tryz.f24) (by kernel_rfl) (ac := f24_ac)
    (Eq.mp (show f24_n a0 a1_0 a1_1 a1_2 a1_3 a1_4 a1_5 V Q = XF Tryz.prog false Tryz.f24 (f24_ac) [(.pointer a0), (.agg ⟨[(.int .i64 a1_0), (.int .i64 a1_1), (.int .i64 a1_2), (.int .i64 a1_3), (.slice a1_4.a a1_4.n a1_4.c), (.slice a1_5.a a1_5.n a1_5.c)]⟩)] V Q from by kernel_rfl) h)
/-- (*potsherd/potsherdlaw10.state).reads -/
def f26_n (a0 : Option Addr) (V : View) (Q : Value → View → Prop) : Prop :=
    True ∧ ∃ (S : View), View.Le S V ∧ ∃ (a : Addr), a0 = some a ∧ ∃ (x : Sl), View.cell? S (Addr.add a (8 : Nat)) = some (Value.slice (Sl.a x) (Sl.n x) (Sl.c x)) ∧ ∃ (a : Addr), a0 = some a ∧ ∃ (x_1 : Sl), View.cell? S (Addr.add a (9 : Nat)) = some (Value.slice (Sl.a x_1) (Sl.n x_1) (Sl.c x_1)) ∧ newB V (Obj.cells (Array.mk []) (58 : Nat)) fun (r : Nat) (V : View) => View.Le S V ∧ apV V (58 : Nat) (3 : Nat) (40 : Nat) [Value.int IntKind.i64 (0 : Int), Value.int IntKind.i64 (0 : Int), Value.slice none (0 : Nat) (0 : Nat)] (Sl.mk (some (Addr.mk r (0 : Nat) none)) (0 : Nat) (0 : Nat)) (Value.slice (Sl.a x) (Sl.n x) (Sl.c x)) fun (s : Sl) (V : View) => View.Le S V ∧ apV V (58 : Nat) (3 : Nat) (40 : Nat) [Value.int IntKind.i64 (0 : Int), Value.int IntKind.i64 (0 : Int), Value.slice none (0 : Nat) (0 : Nat)] (Sl.mk (Sl.a s) (Sl.n s) (Sl.c s)) (Value.slice (Sl.a x_1) (Sl.n x_1) (Sl.c x_1)) fun (s : Sl) (V : View) => loopP [K.int IntKind.i64] (fun (x : Int) (V : View) (J : CurP [K.int IntKind.i64]) => br (decide (x < (↑(Sl.n s) : Int))) ((0 : Int) ≤ x ∧ x < (↑(Sl.n s) : Int) ∧ ∃ (ad : Addr), Sl.a s = some ad ∧ ∃ (x_2 : Int), ∃ (x_3 : Int), ∃ (x_4 : Sl), cellsAt V (Addr.add ad (Int.toNat x * (3 : Nat))) [Value.int IntKind.i64 x_2, Value.int IntKind.i64 x_3, Value.slice (Sl.a x_4) (Sl.n x_4) (Sl.c x_4)] ∧ ∀ (b : Nat), True ∧ ∃ (S : View), View.Le S V ∧ ∃ (a : Addr), a0 = some a ∧ ∃ (x_5 : Option Addr), View.cell? S (Addr.add a (1 : Nat)) = some (Value.pointer x_5) ∧ CallV Tryz.prog (13 : Nat) (Array.mk [Value.pointer x_5, Value.agg (Array.mk [Value.int IntKind.i64 x_2, Value.int IntKind.i64 x_3])]) V fun (r : Value) (V : View) => ∃ (x_6 : Sl), ∃ (x_7 : Int), r = Value.tuple (Array.mk [Value.slice (Sl.a x_6) (Sl.n x_6) (Sl.c x_6), Value.int IntKind.i64 x_7]) ∧ joinP [K.bool] (fun (J : CurP [K.bool]) => br (!decide (x_7 = (0 : Int))) (J true V) (∃ (b : ByteArray), rowAt V (Sl.a x_6) (Sl.n x_6) (bytesV b) ∧ ∃ (b_1 : ByteArray), rowAt V (Sl.a x_4) (Sl.n x_4) (bytesV b_1) ∧ J (!decide (b = b_1)) V)) fun (x_8 : Bool) (V : View) => br x_8 (Q (Value.bool false) V) (inI IntKind.i64 (x + (1 : Int)) ∧ J (x + (1 : Int)) V)) (joinP [K.bool] (fun (J : CurP [K.bool]) => True ∧ ∃ (S : View), View.Le S V ∧ ∃ (a : Addr), a0 = some a ∧ ∃ (x : Option Addr), View.cell? S (Addr.add a (1 : Nat)) = some (Value.pointer x) ∧ ∃ (a : Addr), a0 = some a ∧ ∃ (x_2 : Sl), View.cell? S (Addr.add a (8 : Nat)) = some (Value.slice (Sl.a x_2) (Sl.n x_2) (Sl.c x_2)) ∧ CallV Tryz.prog (16 : Nat) (Array.mk [Value.pointer x]) V fun (r : Value) (V : View) => ∃ (x : Sl), r = Value.slice (Sl.a x) (Sl.n x) (Sl.c x) ∧ View.Le S V ∧ ∃ (S' : View), View.Le S S' ∧ View.Le S' V ∧ br (decide ((↑(Sl.n x) : Int) = (↑(Sl.n x_2) : Int))) (∃ (a : Addr), a0 = some a ∧ ∃ (x : Option Addr), View.cell? S' (Addr.add a (1 : Nat)) = some (Value.pointer x) ∧ ∃ (a : Addr), a0 = some a ∧ ∃ (x_3 : Sl), View.cell? S' (Addr.add a (9 : Nat)) = some (Value.slice (Sl.a x_3) (Sl.n x_3) (Sl.c x_3)) ∧ CallV Tryz.prog (17 : Nat) (Array.mk [Value.pointer x]) V fun (r : Value) (V : View) => ∃ (x : Sl), r = Value.slice (Sl.a x) (Sl.n x) (Sl.c x) ∧ View.Le S' V ∧ J (decide ((↑(Sl.n x) : Int) = (↑(Sl.n x_3) : Int))) V) (J false V)) fun (x : Bool) (V : View) => Q (Value.bool x) V)) ((0 : Int), ()) V
def f26_ac : AC := (.seq (.reg ⟨.done, false, [], [], none⟩) (.seq (.seq (.reg ⟨(.fl 1 (.fl 2 (.fl 3 (.fl 4 (.fl 6 (.fl 7 (.fl 8 (.fl 9 (.fl 12 (.alt 0 true false (.alt 5 true false (.alt 10 false false (.fl 11 .done) .no) .no) .no)))))))))), true, [], [], none⟩) (.block none (.loop ⟨[4, 5, 6, 20, 21, 22, 23, 24, 25, 26, 27, 28, 29, 30, 31, 32, 33, 34, 35, 36, 37, 38, 39, 40, 41, 42, 43], [(19, .int .i64)], []⟩ (.seq (.reg ⟨.done, false, [], [], none⟩) (.seq (.cond none .leaf .leaf) (.seq (.block none (.seq (.reg ⟨.done, false, [], [], none⟩) (.seq (.reg ⟨(.fl 0 (.fl 1 (.fl 2 (.fl 3 (.fl 4 (.fl 5 (.alt 6 false false (.fl 7 (.fl 8 (.fl 9 (.fl 10 (.fl 11 .done))))) .no))))))), true, [], [], none⟩) (.seq (.reg ⟨.done, false, [], [], (some ⟨[33, 34, 35, 36, 37, 38, 39, 40, 41], [(42, .bool)], []⟩)⟩) (.cond none (.seq (.reg ⟨.done, false, [], [], none⟩) .leaf) .leaf))))) (.reg ⟨.done, false, [], [], none⟩))))))) (.seq (.reg ⟨(.fl 0 (.fl 1 (.fl 2 (.fl 3 (.fl 6 (.fl 7 (.fl 8 (.fl 9 (.fl 10 (.alt 4 true true (.fl 5 (.fl 11 (.fl 12 (.fl 13 (.fl 14 (.fl 15 (.fl 16 (.fl 19 (.fl 20 (.fl 21 (.fl 22 (.fl 23 (.alt 17 true false (.fl 18 (.fl 24 (.fl 25 (.fl 26 .done)))) .no))))))))))))) .no)))))))))), true, [], [], (some ⟨[44, 45, 46, 47, 48, 49, 50, 51, 52, 53, 54, 55, 56, 57, 58, 59, 60, 61, 62, 63, 64, 65, 66, 67, 68, 69], [(2, .bool)], []⟩)⟩) .leaf)))
theorem f26_x {a0 : Option Addr} {V : View} {Q : Value → View → Prop} (h : f26_n a0 V Q) : CallV Tryz.prog 26 ⟨[(.pointer a0)]⟩ V Q :=
  XF_sound (wr := false) Tryz.checked.mixed (enters_of (fn := Tryz.f26) (by kernel_rfl) (by kernel_rfl) (by kernel_rfl)) (fn := Tryz.f26) (by kernel_rfl) (ac := f26_ac)
    (Eq.mp (show f26_n a0 V Q = XF Tryz.prog false Tryz.f26 (f26_ac) [(.pointer a0)] V Q from by kernel_rfl) h)
/-- potsherd/potsherdlaw10.picked -/
def f32_n (a0 : Sl) (a1 : Sl) (a2 : Sl) (a3 : Int) (V : View) (Q : Value → View → Prop) : Prop :=
    newB V (Obj.cells (Array.mk []) (58 : Nat)) fun (r : Nat) (V : View) => apV V (58 : Nat) (3 : Nat) (40 : Nat) [Value.int IntKind.i64 (0 : Int), Value.int IntKind.i64 (0 : Int), Value.slice none (0 : Nat) (0 : Nat)] (Sl.mk (some (Addr.mk r (0 : Nat) none)) (0 : Nat) (0 : Nat)) (Value.slice (Sl.a a0) (Sl.n a0) (Sl.c a0)) fun (s : Sl) (V : View) => apV V (58 : Nat) (3 : Nat) (40 : Nat) [Value.int IntKind.i64 (0 : Int), Value.int IntKind.i64 (0 : Int), Value.slice none (0 : Nat) (0 : Nat)] (Sl.mk (Sl.a s) (Sl.n s) (Sl.c s)) (Value.slice (Sl.a a1) (Sl.n a1) (Sl.c a1)) fun (s : Sl) (V : View) => inI IntKind.i64 ((↑(Sl.n s) : Int) - (1 : Int)) ∧ loopP [K.sl, K.int IntKind.i64] (fun (x : Sl) (x_1 : Int) (V : View) (J : CurP [K.sl, K.int IntKind.i64]) => br (decide ((0 : Int) ≤ x_1)) (joinP [K.sl] (fun (J : CurP [K.sl]) => (0 : Int) ≤ x_1 ∧ x_1 < (↑(Sl.n s) : Int) ∧ ∃ (ad : Addr), Sl.a s = some ad ∧ ∃ (x_2 : Int), ∃ (x_3 : Int), ∃ (x_4 : Sl), cellsAt V (Addr.add ad (Int.toNat x_1 * (3 : Nat))) [Value.int IntKind.i64 x_2, Value.int IntKind.i64 x_3, Value.slice (Sl.a x_4) (Sl.n x_4) (Sl.c x_4)] ∧ ∀ (b : Nat), joinP [K.bool] (fun (J : CurP [K.bool]) => br (bif decide (x_2 = (0 : Int)) then true else decide ((↑(Sl.n a2) : Int) ≤ x_1)) (J true V) ((0 : Int) ≤ x_1 ∧ x_1 < (↑(Sl.n a2) : Int) ∧ ∃ (ad : Addr), Sl.a a2 = some ad ∧ ∃ (x_5 : Bool), View.cell? V (Addr.add ad (Int.toNat x_1 * (1 : Nat))) = some (Value.bool x_5) ∧ J (bif !x_5 then true else decide (a3 ≤ (↑(Sl.n x) : Int))) V)) fun (x_5 : Bool) (V : View) => br x_5 (J (Sl.mk (Sl.a x) (Sl.n x) (Sl.c x)) V) (loopP [K.bool, K.int IntKind.i64] (fun (x_6 : Bool) (x_7 : Int) (V : View) (J_1 : CurP [K.bool, K.int IntKind.i64]) => br (decide (x_7 < (↑(Sl.n x) : Int))) ((0 : Int) ≤ x_7 ∧ x_7 < (↑(Sl.n x) : Int) ∧ ∃ (ad : Addr), Sl.a x = some ad ∧ ∃ (x : Int), ∃ (x_8 : Int), ∃ (x_9 : Sl), cellsAt V (Addr.add ad (Int.toNat x_7 * (3 : Nat))) [Value.int IntKind.i64 x, Value.int IntKind.i64 x_8, Value.slice (Sl.a x_9) (Sl.n x_9) (Sl.c x_9)] ∧ ∀ (b : Nat), inI IntKind.i64 (x_7 + (1 : Int)) ∧ J_1 (bif x_6 then true else decide (x = x_2)) (x_7 + (1 : Int)) V) (joinP [K.sl] (fun (J : CurP [K.sl]) => br (!x_6) (newB V (Obj.cells (Array.mk (putL [Value.int IntKind.i64 (0 : Int), Value.int IntKind.i64 (0 : Int), Value.slice none (0 : Nat) (0 : Nat)] (0 : Nat) [Value.int IntKind.i64 x_2, Value.int IntKind.i64 x_3, Value.slice (Sl.a x_4) (Sl.n x_4) (Sl.c x_4)])) (58 : Nat)) fun (r : Nat) (V : View) => apV V (58 : Nat) (3 : Nat) (40 : Nat) [Value.int IntKind.i64 (0 : Int), Value.int IntKind.i64 (0 : Int), Value.slice none (0 : Nat) (0 : Nat)] (Sl.mk (Sl.a x) (Sl.n x) (Sl.c x)) (Value.slice (some (Addr.mk r (0 : Nat) none)) (1 : Nat) (1 : Nat)) fun (s : Sl) (V : View) => J (Sl.mk (Sl.a s) (Sl.n s) (Sl.c s)) V) (J (Sl.mk (Sl.a x) (Sl.n x) (Sl.c x)) V)) fun (x : Sl) (V : View) => J (Sl.mk (Sl.a x) (Sl.n x) (Sl.c x)) V)) (false, (0 : Int), ()) V)) fun (x : Sl) (V : View) => inI IntKind.i64 (x_1 - (1 : Int)) ∧ J (Sl.mk (Sl.a x) (Sl.n x) (Sl.c x)) (x_1 - (1 : Int)) V) (Q (Value.slice (Sl.a x) (Sl.n x) (Sl.c x)) V)) (Sl.mk none (0 : Nat) (0 : Nat), (↑(Sl.n s) : Int) - (1 : Int), ()) V
def f32_ac : AC := (.seq (.reg ⟨.done, false, [], [], none⟩) (.seq (.reg ⟨.done, false, [], [], none⟩) (.seq (.reg ⟨.done, false, [], [], none⟩) (.seq (.seq (.reg ⟨.done, false, [], [], none⟩) (.block none (.loop ⟨[12, 13, 15, 24, 25, 26, 27, 28, 29, 30, 31, 32, 33, 34, 35, 36, 37, 38, 39, 40, 41, 42, 43, 44, 45, 46, 47, 48, 49, 50, 51, 52, 53, 54, 55, 56, 57, 58, 59, 60, 61, 62, 63, 64, 65, 66, 67, 68, 69, 70, 71, 72, 73, 74, 75, 76, 77], [(9, .sl), (11, .int .i64)], []⟩ (.seq (.seq (.reg ⟨.done, false, [], [], none⟩) (.cond none .leaf .leaf)) (.seq (.block (some ⟨[12, 13, 15, 28, 29, 30, 31, 32, 33, 34, 35, 36, 37, 38, 39, 40, 41, 42, 43, 44, 45, 46, 47, 48, 49, 50, 51, 52, 53, 54, 55, 56, 57, 58, 59, 60, 61, 62, 63, 64, 65, 66, 67, 68, 69, 70, 71, 72, 73, 74, 75, 76, 77], [(9, .sl)], []⟩) (.seq (.reg ⟨.done, false, [], [], none⟩) (.seq (.seq (.reg ⟨.done, false, [], [], (some ⟨[32, 33, 34, 35, 36, 37, 38, 39, 40, 41, 42, 43, 44, 45, 46, 47, 48, 49, 50, 51, 52, 53], [(54, .bool)], []⟩)⟩) (.cond none .leaf .leaf)) (.seq (.reg ⟨.done, false, [], [], none⟩) (.seq (.seq (.reg ⟨.done, false, [], [], none⟩) (.block none (.loop ⟨[15, 58, 59, 60, 61, 62, 63, 64, 65, 66, 67, 68, 69, 70, 71], [(13, .bool), (57, .int .i64)], []⟩ (.seq (.reg ⟨.done, false, [], [], none⟩) (.seq (.cond none .leaf .leaf) (.seq (.block none (.seq (.reg ⟨.done, false, [], [], none⟩) (.reg ⟨.done, false, [], [], none⟩))) (.reg ⟨.done, false, [], [], none⟩))))))) (.seq (.reg ⟨.done, false, [], [], none⟩) (.cond (some ⟨[74, 75, 76, 77], [(9, .sl)], []⟩) (.reg ⟨.done, false, [], [], none⟩) .leaf))))))) (.reg ⟨.done, false, [], [], none⟩)))))) (.seq (.reg ⟨.done, false, [], [], none⟩) .leaf)))))
theorem f32_x {a0 : Sl} {a1 : Sl} {a2 : Sl} {a3 : Int} {V : View} {Q : Value → View → Prop} (h : f32_n a0 a1 a2 a3 V Q) : CallV Tryz.prog 32 ⟨[(.slice a0.a a0.n a0.c), (.slice a1.a a1.n a1.c), (.slice a2.a a2.n a2.c), (.int .i64 a3)]⟩ V Q :=
  XF_sound (wr := false) Tryz.checked.mixed (enters_of (fn := Tryz.f32) (by kernel_rfl) (by kernel_rfl) (by kernel_rfl)) (fn := Tryz.f32) (by kernel_rfl) (ac := f32_ac)
    (Eq.mp (show f32_n a0 a1 a2 a3 V Q = XF Tryz.prog false Tryz.f32 (f32_ac) [(.slice a0.a a0.n a0.c), (.slice a1.a a1.n a1.c), (.slice a2.a a2.n a2.c), (.int .i64 a3)] V Q from by kernel_rfl) h)
/-- potsherd/potsherdref3.MayPlan -/
def f63_n (a0_0 : Int) (a0_1 : Int) (a0_2 : Int) (a0_3 : Int) (a0_4 : Int) (V : View) (Q : Value → View → Prop) : Prop :=
    ∀ (b : Nat), Q (Value.bool (bif bif bif bif bif bif bif bif bif decide ((3 : Int) ≤ a0_0) then decide (a0_0 ≤ (64 : Int)) else false then decide ((2 : Int) ≤ a0_1) else false then decide (a0_1 ≤ (32 : Int)) else false then decide ((0 : Int) ≤ a0_2) else false then decide (a0_2 ≤ (6 : Int)) else false then decide ((1 : Int) ≤ a0_3) else false then decide (a0_3 ≤ (60 : Int)) else false then decide ((2 : Int) ≤ a0_4) else false then decide (a0_4 ≤ (50 : Int)) else false)) V
def f63_ac : AC := (.seq (.reg ⟨.done, false, [], [], none⟩) (.seq (.reg ⟨.done, false, [], [], none⟩) .leaf))
theorem f63_x {a0_0 : Int} {a0_1 : Int} {a0_2 : Int} {a0_3 : Int} {a0_4 : Int} {V : View} {Q : Value → View → Prop} (h : f63_n a0_0 a0_1 a0_2 a0_3 a0_4 V Q) : CallV Tryz.prog 63 ⟨[(.agg ⟨[(.int .i64 a0_0), (.int .i64 a0_1), (.int .i64 a0_2), (.int .i64 a0_3), (.int .i64 a0_4)]⟩)]⟩ V Q :=
  XF_sound (wr := false) Tryz.checked.mixed (enters_of (fn := Tryz.f63) (by kernel_rfl) (by kernel_rfl) (by kernel_rfl)) (fn := Tryz.f63) (by kernel_rfl) (ac := f63_ac)
    (Eq.mp (show f63_n a0_0 a0_1 a0_2 a0_3 a0_4 V Q = XF Tryz.prog false Tryz.f63 (f63_ac) [(.agg ⟨[(.int .i64 a0_0), (.int .i64 a0_1), (.int .i64 a0_2), (.int .i64 a0_3), (.int .i64 a0_4)]⟩)] V Q from by kernel_rfl) h)
/-- potsherd/potsherdref3.Fits -/
def f64_n (a0_0 : Int) (a0_1 : Int) (a0_2 : Int) (a0_3 : Int) (a0_4 : Int) (a1 : Int) (V : View) (Q : Value → View → Prop) : Prop :=
    ∀ (b : Nat), joinP [K.bool] (fun (J : CurP [K.bool]) => True ∧ ∃ (S : View), View.Le S V ∧ CallV Tryz.prog (63 : Nat) (Array.mk [Value.agg (Array.mk [Value.int IntKind.i64 a0_0, Value.int IntKind.i64 a0_1, Value.int IntKind.i64 a0_2, Value.int IntKind.i64 a0_3, Value.int IntKind.i64 a0_4])]) V fun (r : Value) (V : View) => ∃ (x : Bool), r = Value.bool x ∧ View.Le S V ∧ ∃ (S' : View), View.Le S S' ∧ View.Le S' V ∧ br (bif bif x then decide ((0 : Int) ≤ a1) else false then decide (a1 ≤ a0_0) else false) (CallV Tryz.prog (103 : Nat) (Array.mk [Value.agg (Array.mk [Value.int IntKind.i64 a0_0, Value.int IntKind.i64 a0_1, Value.int IntKind.i64 a0_2, Value.int IntKind.i64 a0_3, Value.int IntKind.i64 a0_4]), Value.int IntKind.i64 a1]) V fun (r : Value) (V : View) => ∃ (x : Int), r = Value.int IntKind.i64 x ∧ View.Le S' V ∧ CallV Tryz.prog (104 : Nat) (Array.mk [Value.agg (Array.mk [Value.int IntKind.i64 a0_0, Value.int IntKind.i64 a0_1, Value.int IntKind.i64 a0_2, Value.int IntKind.i64 a0_3, Value.int IntKind.i64 a0_4])]) V fun (r : Value) (V : View) => ∃ (x_1 : Int), r = Value.int IntKind.i64 x_1 ∧ J (decide (x_1 ≤ x)) V) (J false V)) fun (x : Bool) (V : View) => Q (Value.bool x) V
def f64_ac : AC := (.seq (.reg ⟨.done, false, [], [], none⟩) (.seq (.reg ⟨(.fl 0 (.alt 1 true true (.fl 2 (.fl 3 (.fl 4 (.fl 5 (.fl 6 (.fl 7 (.fl 8 (.fl 9 (.fl 10 (.fl 11 (.fl 12 (.fl 13 (.fl 14 (.fl 16 (.alt 15 true false (.alt 17 false false (.fl 18 (.fl 19 (.fl 20 .done))) .no) .no))))))))))))))) .no)), true, [], [], (some ⟨[5, 6, 7, 8, 9, 10, 11, 12, 13, 14, 15, 16, 17, 18, 19, 20, 21, 22, 23, 24], [(4, .bool)], []⟩)⟩) .leaf))
theorem f64_x {a0_0 : Int} {a0_1 : Int} {a0_2 : Int} {a0_3 : Int} {a0_4 : Int} {a1 : Int} {V : View} {Q : Value → View → Prop} (h : f64_n a0_0 a0_1 a0_2 a0_3 a0_4 a1 V Q) : CallV Tryz.prog 64 ⟨[(.agg ⟨[(.int .i64 a0_0), (.int .i64 a0_1), (.int .i64 a0_2), (.int .i64 a0_3), (.int .i64 a0_4)]⟩), (.int .i64 a1)]⟩ V Q :=
  XF_sound (wr := false) Tryz.checked.mixed (enters_of (fn := Tryz.f64) (by kernel_rfl) (by kernel_rfl) (by kernel_rfl)) (fn := Tryz.f64) (by kernel_rfl) (ac := f64_ac)
    (Eq.mp (show f64_n a0_0 a0_1 a0_2 a0_3 a0_4 a1 V Q = XF Tryz.prog false Tryz.f64 (f64_ac) [(.agg ⟨[(.int .i64 a0_0), (.int .i64 a0_1), (.int .i64 a0_2), (.int .i64 a0_3), (.int .i64 a0_4)]⟩), (.int .i64 a1)] V Q from by kernel_rfl) h)
/-- (*potsherd/chip.Chip).Bill -/
def f65_n (a0 : Option Addr) (V : View) (Q : Value → View → Prop) : Prop :=
    ∀ (b : Nat), br (Option.isNone a0) (Q (Value.agg (Array.mk [Value.int IntKind.i64 (0 : Int), Value.int IntKind.i64 (0 : Int), Value.int IntKind.i64 (0 : Int)])) V) (∃ (a : Addr), a0 = some a ∧ ∃ (x : Int), ∃ (x_1 : Int), ∃ (x_2 : Int), cellsAt V (Addr.add a (2 : Nat)) [Value.int IntKind.i64 x, Value.int IntKind.i64 x_1, Value.int IntKind.i64 x_2] ∧ Q (Value.agg (Array.mk [Value.int IntKind.i64 x, Value.int IntKind.i64 x_1, Value.int IntKind.i64 x_2])) V)
def f65_ac : AC := (.seq (.reg ⟨.done, false, [], [], none⟩) (.seq (.seq (.reg ⟨.done, false, [], [], none⟩) (.cond none (.seq (.reg ⟨.done, false, [], [], none⟩) .leaf) .leaf)) (.seq (.reg ⟨.done, false, [], [], none⟩) .leaf)))
theorem f65_x {a0 : Option Addr} {V : View} {Q : Value → View → Prop} (h : f65_n a0 V Q) : CallV Tryz.prog 65 ⟨[(.pointer a0)]⟩ V Q :=
  XF_sound (wr := false) Tryz.checked.mixed (enters_of (fn := Tryz.f65) (by kernel_rfl) (by kernel_rfl) (by kernel_rfl)) (fn := Tryz.f65) (by kernel_rfl) (ac := f65_ac)
    (Eq.mp (show f65_n a0 V Q = XF Tryz.prog false Tryz.f65 (f65_ac) [(.pointer a0)] V Q from by kernel_rfl) h)
/-- potsherd/potsherdref3.MaySheet -/
def f66_n (a0_0 : Int) (a0_1 : Int) (a0_2 : Sl) (V : View) (Q : Value → View → Prop) : Prop :=
    ∀ (b : Nat), joinP [K.bool] (fun (J : CurP [K.bool]) => br (bif bif bif bif decide ((0 : Int) ≤ a0_0) then decide (a0_0 ≤ (60 : Int)) else false then decide ((1 : Int) ≤ a0_1) else false then decide (a0_1 ≤ (1099511627776 : Int)) else false then decide ((↑(Sl.n a0_2) : Int) ≤ (2000 : Int)) else false) (CallV Tryz.prog (105 : Nat) (Array.mk [Value.agg (Array.mk [Value.int IntKind.i64 a0_0, Value.int IntKind.i64 a0_1, Value.slice (Sl.a a0_2) (Sl.n a0_2) (Sl.c a0_2)])]) V fun (r : Value) (V : View) => ∃ (x : Sl), r = Value.slice (Sl.a x) (Sl.n x) (Sl.c x) ∧ J (decide ((↑(Sl.n x) : Int) ≤ (2000 : Int))) V) (J false V)) fun (x : Bool) (V : View) => Q (Value.bool x) V
def f66_ac : AC := (.seq (.reg ⟨.done, false, [], [], none⟩) (.seq (.reg ⟨.done, false, [], [], (some ⟨[3, 4, 5, 6, 7, 8, 9, 10, 11, 12, 13, 14, 15, 16, 17, 18, 19, 20, 21, 22, 23, 24, 25, 26, 27, 28, 29, 30, 31, 32], [(2, .bool)], []⟩)⟩) .leaf))
theorem f66_x {a0_0 : Int} {a0_1 : Int} {a0_2 : Sl} {V : View} {Q : Value → View → Prop} (h : f66_n a0_0 a0_1 a0_2 V Q) : CallV Tryz.prog 66 ⟨[(.agg ⟨[(.int .i64 a0_0), (.int .i64 a0_1), (.slice a0_2.a a0_2.n a0_2.c)]⟩)]⟩ V Q :=
  XF_sound (wr := false) Tryz.checked.mixed (enters_of (fn := Tryz.f66) (by kernel_rfl) (by kernel_rfl) (by kernel_rfl)) (fn := Tryz.f66) (by kernel_rfl) (ac := f66_ac)
    (Eq.mp (show f66_n a0_0 a0_1 a0_2 V Q = XF Tryz.prog false Tryz.f66 (f66_ac) [(.agg ⟨[(.int .i64 a0_0), (.int .i64 a0_1), (.slice a0_2.a a0_2.n a0_2.c)]⟩)] V Q from by kernel_rfl) h)
/-- (*potsherd/potsherdlaw10.state).fits -/
def f67_n (a0 : Option Addr) (a1_0 : Int) (a1_1 : Int) (a1_2 : Int) (a2 : Int) (V : View) (Q : Value → View → Prop) : Prop :=
    ∀ (b : Nat), ∃ (a : Addr), a0 = some a ∧ ∃ (x : Option Addr), View.cell? V (Addr.add a (0 : Nat)) = some (Value.pointer x) ∧ CallV Tryz.prog (28 : Nat) (Array.mk [Value.pointer x]) V fun (r : Value) (V : View) => ∃ (x : Sl), r = Value.slice (Sl.a x) (Sl.n x) (Sl.c x) ∧ True ∧ ∃ (S : View), View.Le S V ∧ ∃ (a : Addr), a0 = some a ∧ ∃ (x_1 : Int), View.cell? S (Addr.add a (7 : Nat)) = some (Value.int IntKind.i64 x_1) ∧ CallV Tryz.prog (27 : Nat) (Array.mk [Value.slice (Sl.a x) (Sl.n x) (Sl.c x)]) V fun (r : Value) (V : View) => ∃ (x_2 : Int), r = Value.int IntKind.i64 x_2 ∧ View.Le S V ∧ inI IntKind.i64 (x_2 - x_1) ∧ ∃ (a : Addr), a0 = some a ∧ ∃ (x_3 : Option Addr), View.cell? V (Addr.add a (0 : Nat)) = some (Value.pointer x_3) ∧ CallV Tryz.prog (65 : Nat) (Array.mk [Value.pointer x_3]) V fun (r : Value) (V : View) => ∃ (x_4 : Int), ∃ (x_5 : Int), ∃ (x_6 : Int), r = Value.agg (Array.mk [Value.int IntKind.i64 x_4, Value.int IntKind.i64 x_5, Value.int IntKind.i64 x_6]) ∧ ∀ (b : Nat), inI IntKind.i64 (x_4 - a1_0) ∧ inI IntKind.i64 (x_5 - a1_1) ∧ inI IntKind.i64 (x_6 - a1_2) ∧ ∀ (b : Nat), ∃ (a : Addr), a0 = some a ∧ ∃ (x_7 : Int), ∃ (x_8 : Int), ∃ (x_9 : Int), ∃ (x_10 : Int), ∃ (x_11 : Int), cellsAt V (Addr.add a (2 : Nat)) [Value.int IntKind.i64 x_7, Value.int IntKind.i64 x_8, Value.int IntKind.i64 x_9, Value.int IntKind.i64 x_10, Value.int IntKind.i64 x_11] ∧ inI IntKind.i64 (x_2 - x_1 - a2) ∧ CallV Tryz.prog (106 : Nat) (Array.mk [Value.agg (Array.mk [Value.int IntKind.i64 x_7, Value.int IntKind.i64 x_8, Value.int IntKind.i64 x_9, Value.int IntKind.i64 x_10, Value.int IntKind.i64 x_11]), Value.int IntKind.i64 (1 : Int), Value.int IntKind.i64 (if (if (7 : Int) < x_2 - x_1 - a2 then (7 : Int) else x_2 - x_1 - a2) > (0 : Int) then if (7 : Int) < x_2 - x_1 - a2 then (7 : Int) else x_2 - x_1 - a2 else (0 : Int))]) V fun (r : Value) (V : View) => ∃ (x_12 : Int), ∃ (x_13 : Int), ∃ (x_14 : Int), r = Value.agg (Array.mk [Value.int IntKind.i64 x_12, Value.int IntKind.i64 x_13, Value.int IntKind.i64 x_14]) ∧ ∀ (b : Nat), joinP [K.bool] (fun (J : CurP [K.bool]) => True ∧ ∃ (S : View), View.Le S V ∧ br (bif bif decide (x_12 < x_4 - a1_0) then true else decide (x_13 < x_5 - a1_1) then true else decide (x_14 < x_6 - a1_2)) (∃ (S' : View), View.Le S S' ∧ View.Le S' V ∧ J true V) (∃ (a : Addr), a0 = some a ∧ ∃ (x : Option Addr), View.cell? S (Addr.add a (1 : Nat)) = some (Value.pointer x) ∧ CallV Tryz.prog (19 : Nat) (Array.mk [Value.pointer x]) V fun (r : Value) (V : View) => ∃ (x : Int), r = Value.int IntKind.i64 x ∧ View.Le S V ∧ ∃ (S' : View), View.Le S S' ∧ View.Le S' V ∧ br (!decide (x = x_2 - x_1)) (J true V) (∃ (a : Addr), a0 = some a ∧ ∃ (x : Option Addr), View.cell? S' (Addr.add a (1 : Nat)) = some (Value.pointer x) ∧ ∃ (a : Addr), a0 = some a ∧ ∃ (x_15 : Int), View.cell? S' (Addr.add (Addr.add a (2 : Nat)) (2 : Nat)) = some (Value.int IntKind.i64 x_15) ∧ CallV Tryz.prog (20 : Nat) (Array.mk [Value.pointer x]) V fun (r : Value) (V : View) => ∃ (x : Bool), r = Value.bool x ∧ View.Le S' V ∧ J (!x == decide (x_15 < x_2 - x_1)) V))) fun (x_15 : Bool) (V : View) => br x_15 (Q (Value.bool false) V) (joinP [K.bool] (fun (J : CurP [K.bool]) => True ∧ ∃ (S : View), View.Le S V ∧ ∃ (a : Addr), a0 = some a ∧ ∃ (x_16 : Int), View.cell? S (Addr.add (Addr.add a (2 : Nat)) (2 : Nat)) = some (Value.int IntKind.i64 x_16) ∧ br (decide (x_16 < x_2 - x_1)) (∃ (S' : View), View.Le S S' ∧ View.Le S' V ∧ ∃ (S'_1 : View), View.Le S' S'_1 ∧ View.Le S'_1 V ∧ J true V) (∃ (a : Addr), a0 = some a ∧ ∃ (x_17 : Int), View.cell? S (Addr.add a (13 : Nat)) = some (Value.int IntKind.i64 x_17) ∧ br (decide ((0 : Int) < x_17)) (∃ (S' : View), View.Le S S' ∧ View.Le S' V ∧ ∃ (S'_1 : View), View.Le S' S'_1 ∧ View.Le S'_1 V ∧ J true V) (∃ (a : Addr), a0 = some a ∧ ∃ (x_18 : Int), ∃ (x_19 : Int), ∃ (x_20 : Int), ∃ (x_21 : Int), ∃ (x_22 : Int), cellsAt S (Addr.add a (2 : Nat)) [Value.int IntKind.i64 x_18, Value.int IntKind.i64 x_19, Value.int IntKind.i64 x_20, Value.int IntKind.i64 x_21, Value.int IntKind.i64 x_22] ∧ CallV Tryz.prog (107 : Nat) (Array.mk [Value.slice (Sl.a x) (Sl.n x) (Sl.c x)]) V fun (r : Value) (V : View) => ∃ (x_23 : Sl), r = Value.slice (Sl.a x_23) (Sl.n x_23) (Sl.c x_23) ∧ View.Le S V ∧ ∃ (S' : View), View.Le S S' ∧ View.Le S' V ∧ CallV Tryz.prog (108 : Nat) (Array.mk [Value.agg (Array.mk [Value.int IntKind.i64 x_18, Value.int IntKind.i64 x_19, Value.int IntKind.i64 x_20, Value.int IntKind.i64 x_21, Value.int IntKind.i64 x_22]), Value.int IntKind.i64 (x_2 - x_1)]) V fun (r : Value) (V : View) => ∃ (x_24 : Int), r = Value.int IntKind.i64 x_24 ∧ View.Le S' V ∧ ∃ (S'_1 : View), View.Le S' S'_1 ∧ View.Le S'_1 V ∧ br (decide (x_24 ≤ (↑(Sl.n x_23) : Int))) (∃ (a : Addr), a0 = some a ∧ ∃ (x_25 : Int), View.cell? S'_1 (Addr.add (Addr.add a (2 : Nat)) (4 : Nat)) = some (Value.int IntKind.i64 x_25) ∧ inI IntKind.i64 (x_25 + (1 : Int)) ∧ CallV Tryz.prog (110 : Nat) (Array.mk [Value.slice (Sl.a x) (Sl.n x) (Sl.c x)]) V fun (r : Value) (V : View) => ∃ (x_26 : Sl), r = Value.slice (Sl.a x_26) (Sl.n x_26) (Sl.c x_26) ∧ View.Le S'_1 V ∧ CallV Tryz.prog (111 : Nat) (Array.mk [Value.slice (Sl.a x) (Sl.n x) (Sl.c x)]) V fun (r : Value) (V : View) => ∃ (x : Sl), r = Value.slice (Sl.a x) (Sl.n x) (Sl.c x) ∧ View.Le S'_1 V ∧ CallV Tryz.prog (109 : Nat) (Array.mk [Value.slice (Sl.a x_26) (Sl.n x_26) (Sl.c x_26), Value.slice (Sl.a x) (Sl.n x) (Sl.c x)]) V fun (r : Value) (V : View) => ∃ (x : Int), r = Value.int IntKind.i64 x ∧ View.Le S'_1 V ∧ J (decide (x ≤ x_25 + (1 : Int))) V) (J false V)))) fun (x : Bool) (V : View) => Q (Value.bool x) V)
def f67_ac : AC := (.seq (.reg ⟨.done, false, [], [], none⟩) (.seq (.reg ⟨.done, false, [], [], none⟩) (.seq (.reg ⟨(.fl 0 (.fl 2 (.fl 3 (.fl 4 (.fl 5 (.alt 1 true false (.fl 6 (.fl 7 .done)) .no)))))), true, [], [], none⟩) (.seq (.reg ⟨.done, false, [], [], none⟩) (.seq (.reg ⟨.done, false, [], [], none⟩) (.seq (.reg ⟨.done, false, [], [], none⟩) (.seq (.seq (.reg ⟨(.fl 0 (.fl 1 (.fl 2 (.fl 3 (.fl 4 (.fl 5 (.fl 6 (.fl 7 (.fl 8 (.fl 9 (.fl 10 (.fl 11 (.fl 12 (.fl 13 (.fl 14 (.fl 15 (.fl 16 (.fl 17 (.fl 18 (.fl 19 (.fl 20 (.fl 21 (.fl 22 (.fl 23 (.fl 25 (.alt 24 true true (.fl 26 (.fl 27 (.fl 28 (.fl 29 (.fl 30 (.fl 31 (.fl 32 (.fl 34 (.fl 35 (.fl 36 (.fl 37 (.fl 38 (.fl 39 (.fl 40 (.alt 33 true false (.fl 41 (.fl 42 .done)) .no))))))))))))))) .no)))))))))))))))))))))))))), true, [], [], (some ⟨[55, 56, 57, 58, 59, 60, 61, 62, 63, 64, 65, 66, 67, 68, 69, 70, 71, 72, 73, 74, 75, 76, 77, 78, 79, 80, 81, 82, 83, 84, 85, 86, 87, 88, 89, 90, 91, 92, 93, 94, 95, 96], [(97, .bool)], []⟩)⟩) (.cond none (.seq (.reg ⟨.done, false, [], [], none⟩) .leaf) .leaf)) (.seq (.reg ⟨(.fl 0 (.fl 1 (.fl 2 (.fl 3 (.fl 4 (.fl 5 (.fl 6 (.fl 7 (.fl 8 (.fl 9 (.fl 10 (.fl 11 (.fl 12 (.fl 13 (.fl 14 (.fl 15 (.fl 18 (.fl 19 (.fl 20 (.fl 21 (.fl 22 (.alt 16 true true (.fl 17 (.alt 23 true true (.fl 24 (.fl 25 (.fl 26 (.fl 28 (.fl 31 (.fl 32 (.fl 33 (.fl 34 (.fl 35 (.fl 36 (.alt 27 true false (.alt 29 true false (.alt 30 true false (.fl 37 (.fl 38 (.fl 39 (.fl 40 .done)))) .no) .no) .no))))))))))) .no)) .no)))))))))))))))))))))), true, [], [], (some ⟨[98, 99, 100, 101, 102, 103, 104, 105, 106, 107, 108, 109, 110, 111, 112, 113, 114, 115, 116, 117, 118, 119, 120, 121, 122, 123, 124, 125, 126, 127, 128, 129, 130, 131, 132, 133, 134, 135, 136, 137], [(6, .bool)], []⟩)⟩) .leaf))))))))
theorem f67_x {a0 : Option Addr} {a1_0 : Int} {a1_1 : Int} {a1_2 : Int} {a2 : Int} {V : View} {Q : Value → View → Prop} (h : f67_n a0 a1_0 a1_1 a1_2 a2 V Q) : CallV Tryz.prog 67 ⟨[(.pointer a0), (.agg ⟨[(.int .i64 a1_0), (.int .i64 a1_1), (.int .i64 a1_2)]⟩), (.int .i64 a2)]⟩ V Q :=
  XF_sound (wr := false) Tryz.checked.mixed (enters_of (fn := Tryz.f67) (by kernel_rfl) (by kernel_rfl) (by kernel_rfl)) (fn := Tryz.f67) (by kernel_rfl) (ac := f67_ac)
    (Eq.mp (show f67_n a0 a1_0 a1_1 a1_2 a2 V Q = XF Tryz.prog false Tryz.f67 (f67_ac) [(.pointer a0), (.agg ⟨[(.int .i64 a1_0), (.int .i64 a1_1), (.int .i64 a1_2)]⟩), (.int .i64 a2)] V Q from by kernel_rfl) h)
/-- potsherd/potsherdlaw10.refs -/
def f68_n (a0 : Sl) (V : View) (Q : Value → View → Prop) : Prop :=
    loopP [K.sl, K.int IntKind.i64] (fun (x : Sl) (x_1 : Int) (V : View) (J : CurP [K.sl, K.int IntKind.i64]) => br (decide (x_1 < (↑(Sl.n a0) : Int))) ((0 : Int) ≤ x_1 ∧ x_1 < (↑(Sl.n a0) : Int) ∧ ∃ (ad : Addr), Sl.a a0 = some ad ∧ ∃ (x_2 : Int), ∃ (x_3 : Int), ∃ (x_4 : Sl), cellsAt V (Addr.add ad (Int.toNat x_1 * (3 : Nat))) [Value.int IntKind.i64 x_2, Value.int IntKind.i64 x_3, Value.slice (Sl.a x_4) (Sl.n x_4) (Sl.c x_4)] ∧ ∀ (b : Nat), newB V (Obj.cells (Array.mk (putL [Value.int IntKind.i64 (0 : Int), Value.int IntKind.i64 (0 : Int)] (0 : Nat) [Value.int IntKind.i64 x_2, Value.int IntKind.i64 x_3])) (33 : Nat)) fun (r : Nat) (V : View) => apV V (33 : Nat) (2 : Nat) (16 : Nat) [Value.int IntKind.i64 (0 : Int), Value.int IntKind.i64 (0 : Int)] (Sl.mk (Sl.a x) (Sl.n x) (Sl.c x)) (Value.slice (some (Addr.mk r (0 : Nat) none)) (1 : Nat) (1 : Nat)) fun (s : Sl) (V : View) => inI IntKind.i64 (x_1 + (1 : Int)) ∧ J (Sl.mk (Sl.a s) (Sl.n s) (Sl.c s)) (x_1 + (1 : Int)) V) (Q (Value.slice (Sl.a x) (Sl.n x) (Sl.c x)) V)) (Sl.mk none (0 : Nat) (0 : Nat), (0 : Int), ()) V
def f68_ac : AC := (.seq (.reg ⟨.done, false, [], [], none⟩) (.seq (.reg ⟨.done, false, [], [], none⟩) (.seq (.seq (.reg ⟨.done, false, [], [], none⟩) (.block none (.loop ⟨[5, 9, 10, 11, 12, 13, 14, 15, 16, 17], [(3, .sl), (8, .int .i64)], []⟩ (.seq (.reg ⟨.done, false, [], [], none⟩) (.seq (.cond none .leaf .leaf) (.seq (.block none (.seq (.reg ⟨.done, false, [], [], none⟩) (.reg ⟨.done, false, [], [], none⟩))) (.reg ⟨.done, false, [], [], none⟩))))))) (.seq (.reg ⟨.done, false, [], [], none⟩) .leaf))))
theorem f68_x {a0 : Sl} {V : View} {Q : Value → View → Prop} (h : f68_n a0 V Q) : CallV Tryz.prog 68 ⟨[(.slice a0.a a0.n a0.c)]⟩ V Q :=
  XF_sound (wr := false) Tryz.checked.mixed (enters_of (fn := Tryz.f68) (by kernel_rfl) (by kernel_rfl) (by kernel_rfl)) (fn := Tryz.f68) (by kernel_rfl) (ac := f68_ac)
    (Eq.mp (show f68_n a0 V Q = XF Tryz.prog false Tryz.f68 (f68_ac) [(.slice a0.a a0.n a0.c)] V Q from by kernel_rfl) h)
/-- potsherd/potsherdref3.Room -/
def f103_n (a0_0 : Int) (a0_1 : Int) (a0_2 : Int) (a0_3 : Int) (a0_4 : Int) (a1 : Int) (V : View) (Q : Value → View → Prop) : Prop :=
    ∀ (b : Nat), CallV Tryz.prog (63 : Nat) (Array.mk [Value.agg (Array.mk [Value.int IntKind.i64 a0_0, Value.int IntKind.i64 a0_1, Value.int IntKind.i64 a0_2, Value.int IntKind.i64 a0_3, Value.int IntKind.i64 a0_4])]) V fun (r : Value) (V : View) => ∃ (x : Bool), r = Value.bool x ∧ br (bif bif !x then true else decide (a1 < (0 : Int)) then true else decide (a0_0 < a1)) (Q (Value.int IntKind.i64 (0 : Int)) V) (inI IntKind.i64 (a0_0 - a1) ∧ inI IntKind.i64 (a0_0 - a1 - a0_2) ∧ inI IntKind.i64 (a0_0 - a1 - a0_2 - (1 : Int)) ∧ inI IntKind.i64 ((a0_0 - a1 - a0_2 - (1 : Int)) * a0_1) ∧ Q (Value.int IntKind.i64 (if (a0_0 - a1 - a0_2 - (1 : Int)) * a0_1 > (0 : Int) then (a0_0 - a1 - a0_2 - (1 : Int)) * a0_1 else (0 : Int))) V)
def f103_ac : AC := (.seq (.reg ⟨.done, false, [], [], none⟩) (.seq (.seq (.reg ⟨.done, false, [], [], none⟩) (.cond none (.seq (.reg ⟨.done, false, [], [], none⟩) .leaf) .leaf)) (.seq (.reg ⟨.done, false, [], [], none⟩) .leaf)))
theorem f103_x {a0_0 : Int} {a0_1 : Int} {a0_2 : Int} {a0_3 : Int} {a0_4 : Int} {a1 : Int} {V : View} {Q : Value → View → Prop} (h : f103_n a0_0 a0_1 a0_2 a0_3 a0_4 a1 V Q) : CallV Tryz.prog 103 ⟨[(.agg ⟨[(.int .i64 a0_0), (.int .i64 a0_1), (.int .i64 a0_2), (.int .i64 a0_3), (.int .i64 a0_4)]⟩), (.int .i64 a1)]⟩ V Q :=
  XF_sound (wr := false) Tryz.checked.mixed (enters_of (fn := Tryz.f103) (by kernel_rfl) (by kernel_rfl) (by kernel_rfl)) (fn := Tryz.f103) (by kernel_rfl) (ac := f103_ac)
    (Eq.mp (show f103_n a0_0 a0_1 a0_2 a0_3 a0_4 a1 V Q = XF Tryz.prog false Tryz.f103 (f103_ac) [(.agg ⟨[(.int .i64 a0_0), (.int .i64 a0_1), (.int .i64 a0_2), (.int .i64 a0_3), (.int .i64 a0_4)]⟩), (.int .i64 a1)] V Q from by kernel_rfl) h)
/-- potsherd/potsherdref3.Need -/
def f104_n (a0_0 : Int) (a0_1 : Int) (a0_2 : Int) (a0_3 : Int) (a0_4 : Int) (V : View) (Q : Value → View → Prop) : Prop :=
    ∀ (b : Nat), CallV Tryz.prog (63 : Nat) (Array.mk [Value.agg (Array.mk [Value.int IntKind.i64 a0_0, Value.int IntKind.i64 a0_1, Value.int IntKind.i64 a0_2, Value.int IntKind.i64 a0_3, Value.int IntKind.i64 a0_4])]) V fun (r : Value) (V : View) => ∃ (x : Bool), r = Value.bool x ∧ br (!x) (Q (Value.int IntKind.i64 (0 : Int)) V) (inI IntKind.i64 (a0_3 + (5 : Int)) ∧ inI IntKind.i64 (a0_3 + (5 : Int) + (3 : Int)) ∧ Q (Value.int IntKind.i64 (a0_3 + (5 : Int) + (3 : Int))) V)
def f104_ac : AC := (.seq (.reg ⟨.done, false, [], [], none⟩) (.seq (.seq (.reg ⟨.done, false, [], [], none⟩) (.cond none (.seq (.reg ⟨.done, false, [], [], none⟩) .leaf) .leaf)) (.seq (.reg ⟨.done, false, [], [], none⟩) .leaf)))
theorem f104_x {a0_0 : Int} {a0_1 : Int} {a0_2 : Int} {a0_3 : Int} {a0_4 : Int} {V : View} {Q : Value → View → Prop} (h : f104_n a0_0 a0_1 a0_2 a0_3 a0_4 V Q) : CallV Tryz.prog 104 ⟨[(.agg ⟨[(.int .i64 a0_0), (.int .i64 a0_1), (.int .i64 a0_2), (.int .i64 a0_3), (.int .i64 a0_4)]⟩)]⟩ V Q :=
  XF_sound (wr := false) Tryz.checked.mixed (enters_of (fn := Tryz.f104) (by kernel_rfl) (by kernel_rfl) (by kernel_rfl)) (fn := Tryz.f104) (by kernel_rfl) (ac := f104_ac)
    (Eq.mp (show f104_n a0_0 a0_1 a0_2 a0_3 a0_4 V Q = XF Tryz.prog false Tryz.f104 (f104_ac) [(.agg ⟨[(.int .i64 a0_0), (.int .i64 a0_1), (.int .i64 a0_2), (.int .i64 a0_3), (.int .i64 a0_4)]⟩)] V Q from by kernel_rfl) h)
/-- potsherd/potsherdref3.sheetBytes -/
def f105_n (a0_0 : Int) (a0_1 : Int) (a0_2 : Sl) (V : View) (Q : Value → View → Prop) : Prop :=
    ∀ (b : Nat), joinP [K.sl] (fun (J : CurP [K.sl]) => True ∧ ∃ (S : View), View.Le S V ∧ (CallV Tryz.prog (129 : Nat) (Array.mk [Value.slice none (0 : Nat) (0 : Nat), Value.int IntKind.i64 a0_0]) V fun (r : Value) (V : View) => ∃ (x : Sl), r = Value.slice (Sl.a x) (Sl.n x) (Sl.c x) ∧ View.Le S V ∧ (CallV Tryz.prog (129 : Nat) (Array.mk [Value.slice (Sl.a x) (Sl.n x) (Sl.c x), Value.int IntKind.i64 a0_1]) V fun (r : Value) (V : View) => ∃ (x : Sl), r = Value.slice (Sl.a x) (Sl.n x) (Sl.c x) ∧ View.Le S V ∧ (CallV Tryz.prog (128 : Nat) (Array.mk [Value.slice (Sl.a x) (Sl.n x) (Sl.c x), Value.slice (Sl.a a0_2) (Sl.n a0_2) (Sl.c a0_2)]) V fun (r : Value) (V : View) => ∃ (x : Sl), r = Value.slice (Sl.a x) (Sl.n x) (Sl.c x) ∧ View.Le S V ∧ newB V (Obj.cells (Array.mk (putL [Value.int IntKind.u8 (0 : Int)] (0 : Nat) [Value.int IntKind.u8 (90 : Int)])) (5 : Nat)) fun (r : Nat) (V : View) => View.Le S V ∧ apV V (5 : Nat) (1 : Nat) (1 : Nat) [Value.int IntKind.u8 (0 : Int)] (Sl.mk (Sl.a x) (Sl.n x) (Sl.c x)) (Value.slice (some (Addr.mk r (0 : Nat) none)) (1 : Nat) (1 : Nat)) fun (s : Sl) (V : View) => J (Sl.mk (Sl.a s) (Sl.n s) (Sl.c s)) V) ∧ newB V (Obj.cells (Array.mk (putL [Value.int IntKind.u8 (0 : Int)] (0 : Nat) [Value.int IntKind.u8 (90 : Int)])) (5 : Nat)) fun (r : Nat) (V : View) => View.Le S V ∧ CallV Tryz.prog (128 : Nat) (Array.mk [Value.slice (Sl.a x) (Sl.n x) (Sl.c x), Value.slice (Sl.a a0_2) (Sl.n a0_2) (Sl.c a0_2)]) V fun (r_1 : Value) (V : View) => ∃ (x : Sl), r_1 = Value.slice (Sl.a x) (Sl.n x) (Sl.c x) ∧ View.Le S V ∧ apV V (5 : Nat) (1 : Nat) (1 : Nat) [Value.int IntKind.u8 (0 : Int)] (Sl.mk (Sl.a x) (Sl.n x) (Sl.c x)) (Value.slice (some (Addr.mk r (0 : Nat) none)) (1 : Nat) (1 : Nat)) fun (s : Sl) (V : View) => J (Sl.mk (Sl.a s) (Sl.n s) (Sl.c s)) V) ∧ newB V (Obj.cells (Array.mk (putL [Value.int IntKind.u8 (0 : Int)] (0 : Nat) [Value.int IntKind.u8 (90 : Int)])) (5 : Nat)) fun (r : Nat) (V : View) => View.Le S V ∧ CallV Tryz.prog (129 : Nat) (Array.mk [Value.slice (Sl.a x) (Sl.n x) (Sl.c x), Value.int IntKind.i64 a0_1]) V fun (r_1 : Value) (V : View) => ∃ (x : Sl), r_1 = Value.slice (Sl.a x) (Sl.n x) (Sl.c x) ∧ View.Le S V ∧ CallV Tryz.prog (128 : Nat) (Array.mk [Value.slice (Sl.a x) (Sl.n x) (Sl.c x), Value.slice (Sl.a a0_2) (Sl.n a0_2) (Sl.c a0_2)]) V fun (r_2 : Value) (V : View) => ∃ (x : Sl), r_2 = Value.slice (Sl.a x) (Sl.n x) (Sl.c x) ∧ View.Le S V ∧ apV V (5 : Nat) (1 : Nat) (1 : Nat) [Value.int IntKind.u8 (0 : Int)] (Sl.mk (Sl.a x) (Sl.n x) (Sl.c x)) (Value.slice (some (Addr.mk r (0 : Nat) none)) (1 : Nat) (1 : Nat)) fun (s : Sl) (V : View) => J (Sl.mk (Sl.a s) (Sl.n s) (Sl.c s)) V) ∧ newB V (Obj.cells (Array.mk (putL [Value.int IntKind.u8 (0 : Int)] (0 : Nat) [Value.int IntKind.u8 (90 : Int)])) (5 : Nat)) fun (r : Nat) (V : View) => View.Le S V ∧ CallV Tryz.prog (129 : Nat) (Array.mk [Value.slice none (0 : Nat) (0 : Nat), Value.int IntKind.i64 a0_0]) V fun (r_1 : Value) (V : View) => ∃ (x : Sl), r_1 = Value.slice (Sl.a x) (Sl.n x) (Sl.c x) ∧ View.Le S V ∧ CallV Tryz.prog (129 : Nat) (Array.mk [Value.slice (Sl.a x) (Sl.n x) (Sl.c x), Value.int IntKind.i64 a0_1]) V fun (r_2 : Value) (V : View) => ∃ (x : Sl), r_2 = Value.slice (Sl.a x) (Sl.n x) (Sl.c x) ∧ View.Le S V ∧ CallV Tryz.prog (128 : Nat) (Array.mk [Value.slice (Sl.a x) (Sl.n x) (Sl.c x), Value.slice (Sl.a a0_2) (Sl.n a0_2) (Sl.c a0_2)]) V fun (r_3 : Value) (V : View) => ∃ (x : Sl), r_3 = Value.slice (Sl.a x) (Sl.n x) (Sl.c x) ∧ View.Le S V ∧ apV V (5 : Nat) (1 : Nat) (1 : Nat) [Value.int IntKind.u8 (0 : Int)] (Sl.mk (Sl.a x) (Sl.n x) (Sl.c x)) (Value.slice (some (Addr.mk r (0 : Nat) none)) (1 : Nat) (1 : Nat)) fun (s : Sl) (V : View) => J (Sl.mk (Sl.a s) (Sl.n s) (Sl.c s)) V) fun (x : Sl) (V : View) => Q (Value.slice (Sl.a x) (Sl.n x) (Sl.c x)) V
def f105_ac : AC := (.seq (.reg ⟨.done, false, [], [], none⟩) (.seq (.reg ⟨(.fl 0 (.fl 1 (.fl 3 (.fl 4 (.fl 6 (.fl 7 (.alt 2 true false (.alt 5 true false (.alt 8 true false (.alt 9 true false (.alt 10 false false (.fl 11 .done) .no) .no) (.alt 9 true false (.alt 8 true false (.alt 10 false false (.fl 11 .done) .no) .no) .no)) (.alt 9 true false (.alt 5 true false (.alt 8 true false (.alt 10 false false (.fl 11 .done) .no) .no) .no) .no)) (.alt 9 true false (.alt 2 true false (.alt 5 true false (.alt 8 true false (.alt 10 false false (.fl 11 .done) .no) .no) .no) .no) .no)))))))), true, [], [], (some ⟨[3, 4, 5, 6, 7, 8, 9, 10, 11, 12, 13], [(2, .sl)], []⟩)⟩) .leaf))
theorem f105_x {a0_0 : Int} {a0_1 : Int} {a0_2 : Sl} {V : View} {Q : Value → View → Prop} (h : f105_n a0_0 a0_1 a0_2 V Q) : CallV Tryz.prog 105 ⟨[(.agg ⟨[(.int .i64 a0_0), (.int .i64 a0_1), (.slice a0_2.a a0_2.n a0_2.c)]⟩)]⟩ V Q :=
  XF_sound (wr := false) Tryz.checked.mixed (enters_of (fn := Tryz.f105) (by kernel_rfl) (by kernel_rfl) (by kernel_rfl)) (fn := Tryz.f105) (by kernel_rfl) (ac := f105_ac)
    (Eq.mp (show f105_n a0_0 a0_1 a0_2 V Q = XF Tryz.prog false Tryz.f105 (f105_ac) [(.agg ⟨[(.int .i64 a0_0), (.int .i64 a0_1), (.slice a0_2.a a0_2.n a0_2.c)]⟩)] V Q from by kernel_rfl) h)
/-- potsherd/potsherdref3.Price -/
def f106_n (a0_0 : Int) (a0_1 : Int) (a0_2 : Int) (a0_3 : Int) (a0_4 : Int) (a1 : Int) (a2 : Int) (V : View) (Q : Value → View → Prop) : Prop :=
    ∀ (b b : Nat), CallV Tryz.prog (63 : Nat) (Array.mk [Value.agg (Array.mk [Value.int IntKind.i64 a0_0, Value.int IntKind.i64 a0_1, Value.int IntKind.i64 a0_2, Value.int IntKind.i64 a0_3, Value.int IntKind.i64 a0_4])]) V fun (r : Value) (V : View) => ∃ (x : Bool), r = Value.bool x ∧ br (bif bif bif bif !x then true else decide (a1 < (0 : Int)) then true else decide ((20 : Int) < a1) then true else decide (a2 < (0 : Int)) then true else decide ((7 : Int) < a2)) (Q (Value.agg (Array.mk [Value.int IntKind.i64 (0 : Int), Value.int IntKind.i64 (0 : Int), Value.int IntKind.i64 (0 : Int)])) V) (inI IntKind.i64 (a1 * (2 : Int)) ∧ inI IntKind.i64 (a0_0 + (4 : Int)) ∧ inI IntKind.i64 (a1 * (2 : Int) * (a0_0 + (4 : Int))) ∧ inI IntKind.i64 (a2 + (1 : Int)) ∧ inI IntKind.i64 (a1 * (2 : Int) * (a0_0 + (4 : Int)) * (a2 + (1 : Int))) ∧ inI IntKind.i64 (a1 * (2 : Int) * (a0_0 + (4 : Int)) * (a2 + (1 : Int)) * a0_1) ∧ inI IntKind.i64 (a1 * (2 : Int) * (a0_0 + (4 : Int)) * (a2 + (1 : Int)) * a0_1) ∧ Q (Value.agg (Array.mk [Value.int IntKind.i64 (a1 * (2 : Int) * (a0_0 + (4 : Int)) * (a2 + (1 : Int)) * a0_1), Value.int IntKind.i64 (a1 * (2 : Int) * (a0_0 + (4 : Int)) * (a2 + (1 : Int)) * a0_1), Value.int IntKind.i64 (a1 * (2 : Int) * (a0_0 + (4 : Int)) * (a2 + (1 : Int)))])) V)
def f106_ac : AC := (.seq (.reg ⟨.done, false, [], [], none⟩) (.seq (.seq (.reg ⟨.done, false, [], [], none⟩) (.cond none (.seq (.reg ⟨.done, false, [], [], none⟩) .leaf) .leaf)) (.seq (.reg ⟨.done, false, [], [], none⟩) (.seq (.reg ⟨.done, false, [], [], none⟩) .leaf))))
theorem f106_x {a0_0 : Int} {a0_1 : Int} {a0_2 : Int} {a0_3 : Int} {a0_4 : Int} {a1 : Int} {a2 : Int} {V : View} {Q : Value → View → Prop} (h : f106_n a0_0 a0_1 a0_2 a0_3 a0_4 a1 a2 V Q) : CallV Tryz.prog 106 ⟨[(.agg ⟨[(.int .i64 a0_0), (.int .i64 a0_1), (.int .i64 a0_2), (.int .i64 a0_3), (.int .i64 a0_4)]⟩), (.int .i64 a1), (.int .i64 a2)]⟩ V Q :=
  XF_sound (wr := false) Tryz.checked.mixed (enters_of (fn := Tryz.f106) (by kernel_rfl) (by kernel_rfl) (by kernel_rfl)) (fn := Tryz.f106) (by kernel_rfl) (ac := f106_ac)
    (Eq.mp (show f106_n a0_0 a0_1 a0_2 a0_3 a0_4 a1 a2 V Q = XF Tryz.prog false Tryz.f106 (f106_ac) [(.agg ⟨[(.int .i64 a0_0), (.int .i64 a0_1), (.int .i64 a0_2), (.int .i64 a0_3), (.int .i64 a0_4)]⟩), (.int .i64 a1), (.int .i64 a2)] V Q from by kernel_rfl) h)
/-- potsherd/wear.Apart -/
def f109_n (a0 : Sl) (a1 : Sl) (V : View) (Q : Value → View → Prop) : Prop :=
    CallV Tryz.prog (131 : Nat) (Array.mk [Value.slice (Sl.a a0) (Sl.n a0) (Sl.c a0), Value.slice (Sl.a a1) (Sl.n a1) (Sl.c a1)]) V fun (r : Value) (V : View) => ∃ (x : Int), ∃ (x_1 : Int), r = Value.tuple (Array.mk [Value.int IntKind.i64 x, Value.int IntKind.i64 x_1]) ∧ CallV Tryz.prog (132 : Nat) (Array.mk [Value.int IntKind.i64 x_1, Value.int IntKind.i64 x]) V fun (r : Value) (V : View) => ∃ (x : Int), r = Value.int IntKind.i64 x ∧ Q (Value.int IntKind.i64 x) V
def f109_ac : AC := (.seq (.reg ⟨.done, false, [], [], none⟩) (.seq (.reg ⟨.done, false, [], [], none⟩) (.seq (.reg ⟨.done, false, [], [], none⟩) .leaf)))
theorem f109_x {a0 : Sl} {a1 : Sl} {V : View} {Q : Value → View → Prop} (h : f109_n a0 a1 V Q) : CallV Tryz.prog 109 ⟨[(.slice a0.a a0.n a0.c), (.slice a1.a a1.n a1.c)]⟩ V Q :=
  XF_sound (wr := false) Tryz.checked.mixed (enters_of (fn := Tryz.f109) (by kernel_rfl) (by kernel_rfl) (by kernel_rfl)) (fn := Tryz.f109) (by kernel_rfl) (ac := f109_ac)
    (Eq.mp (show f109_n a0 a1 V Q = XF Tryz.prog false Tryz.f109 (f109_ac) [(.slice a0.a a0.n a0.c), (.slice a1.a a1.n a1.c)] V Q from by kernel_rfl) h)
/-- potsherd/block.Counts -/
def f110_n (a0 : Sl) (V : View) (Q : Value → View → Prop) : Prop :=
    loopP [K.sl, K.int IntKind.i64] (fun (x : Sl) (x_1 : Int) (V : View) (J : CurP [K.sl, K.int IntKind.i64]) => br (decide (x_1 < (↑(Sl.n a0) : Int))) ((0 : Int) ≤ x_1 ∧ x_1 < (↑(Sl.n a0) : Int) ∧ ∃ (ad : Addr), Sl.a a0 = some ad ∧ ∃ (x_2 : Bool), ∃ (x_3 : Int), ∃ (x_4 : Int), ∃ (x_5 : Sl), cellsAt V (Addr.add ad (Int.toNat x_1 * (4 : Nat))) [Value.bool x_2, Value.int IntKind.i64 x_3, Value.int IntKind.i64 x_4, Value.slice (Sl.a x_5) (Sl.n x_5) (Sl.c x_5)] ∧ ∀ (b : Nat), newB V (Obj.cells (Array.mk (putL [Value.int IntKind.i64 (0 : Int)] (0 : Nat) [Value.int IntKind.i64 x_4])) (3 : Nat)) fun (r : Nat) (V : View) => apV V (3 : Nat) (1 : Nat) (8 : Nat) [Value.int IntKind.i64 (0 : Int)] (Sl.mk (Sl.a x) (Sl.n x) (Sl.c x)) (Value.slice (some (Addr.mk r (0 : Nat) none)) (1 : Nat) (1 : Nat)) fun (s : Sl) (V : View) => inI IntKind.i64 (x_1 + (1 : Int)) ∧ J (Sl.mk (Sl.a s) (Sl.n s) (Sl.c s)) (x_1 + (1 : Int)) V) (Q (Value.slice (Sl.a x) (Sl.n x) (Sl.c x)) V)) (Sl.mk none (0 : Nat) (0 : Nat), (0 : Int), ()) V
def f110_ac : AC := (.seq (.reg ⟨.done, false, [], [], none⟩) (.seq (.reg ⟨.done, false, [], [], none⟩) (.seq (.seq (.reg ⟨.done, false, [], [], none⟩) (.block none (.loop ⟨[5, 9, 10, 11, 12, 13, 14, 15, 16, 17], [(3, .sl), (8, .int .i64)], []⟩ (.seq (.reg ⟨.done, false, [], [], none⟩) (.seq (.cond none .leaf .leaf) (.seq (.block none (.seq (.reg ⟨.done, false, [], [], none⟩) (.reg ⟨.done, false, [], [], none⟩))) (.reg ⟨.done, false, [], [], none⟩))))))) (.seq (.reg ⟨.done, false, [], [], none⟩) .leaf))))
theorem f110_x {a0 : Sl} {V : View} {Q : Value → View → Prop} (h : f110_n a0 V Q) : CallV Tryz.prog 110 ⟨[(.slice a0.a a0.n a0.c)]⟩ V Q :=
  XF_sound (wr := false) Tryz.checked.mixed (enters_of (fn := Tryz.f110) (by kernel_rfl) (by kernel_rfl) (by kernel_rfl)) (fn := Tryz.f110) (by kernel_rfl) (ac := f110_ac)
    (Eq.mp (show f110_n a0 V Q = XF Tryz.prog false Tryz.f110 (f110_ac) [(.slice a0.a a0.n a0.c)] V Q from by kernel_rfl) h)
/-- potsherd/block.Good -/
def f111_n (a0 : Sl) (V : View) (Q : Value → View → Prop) : Prop :=
    loopP [K.sl, K.int IntKind.i64] (fun (x : Sl) (x_1 : Int) (V : View) (J : CurP [K.sl, K.int IntKind.i64]) => br (decide (x_1 < (↑(Sl.n a0) : Int))) ((0 : Int) ≤ x_1 ∧ x_1 < (↑(Sl.n a0) : Int) ∧ ∃ (ad : Addr), Sl.a a0 = some ad ∧ ∃ (x_2 : Bool), ∃ (x_3 : Int), ∃ (x_4 : Int), ∃ (x_5 : Sl), cellsAt V (Addr.add ad (Int.toNat x_1 * (4 : Nat))) [Value.bool x_2, Value.int IntKind.i64 x_3, Value.int IntKind.i64 x_4, Value.slice (Sl.a x_5) (Sl.n x_5) (Sl.c x_5)] ∧ ∀ (b : Nat), newB V (Obj.cells (Array.mk (putL [Value.bool false] (0 : Nat) [Value.bool !x_2])) (4 : Nat)) fun (r : Nat) (V : View) => apV V (4 : Nat) (1 : Nat) (1 : Nat) [Value.bool false] (Sl.mk (Sl.a x) (Sl.n x) (Sl.c x)) (Value.slice (some (Addr.mk r (0 : Nat) none)) (1 : Nat) (1 : Nat)) fun (s : Sl) (V : View) => inI IntKind.i64 (x_1 + (1 : Int)) ∧ J (Sl.mk (Sl.a s) (Sl.n s) (Sl.c s)) (x_1 + (1 : Int)) V) (Q (Value.slice (Sl.a x) (Sl.n x) (Sl.c x)) V)) (Sl.mk none (0 : Nat) (0 : Nat), (0 : Int), ()) V
def f111_ac : AC := (.seq (.reg ⟨.done, false, [], [], none⟩) (.seq (.reg ⟨.done, false, [], [], none⟩) (.seq (.seq (.reg ⟨.done, false, [], [], none⟩) (.block none (.loop ⟨[5, 9, 10, 11, 12, 13, 14, 15, 16, 17, 18], [(3, .sl), (8, .int .i64)], []⟩ (.seq (.reg ⟨.done, false, [], [], none⟩) (.seq (.cond none .leaf .leaf) (.seq (.block none (.seq (.reg ⟨.done, false, [], [], none⟩) (.reg ⟨.done, false, [], [], none⟩))) (.reg ⟨.done, false, [], [], none⟩))))))) (.seq (.reg ⟨.done, false, [], [], none⟩) .leaf))))
theorem f111_x {a0 : Sl} {V : View} {Q : Value → View → Prop} (h : f111_n a0 V Q) : CallV Tryz.prog 111 ⟨[(.slice a0.a a0.n a0.c)]⟩ V Q :=
  XF_sound (wr := false) Tryz.checked.mixed (enters_of (fn := Tryz.f111) (by kernel_rfl) (by kernel_rfl) (by kernel_rfl)) (fn := Tryz.f111) (by kernel_rfl) (ac := f111_ac)
    (Eq.mp (show f111_n a0 V Q = XF Tryz.prog false Tryz.f111 (f111_ac) [(.slice a0.a a0.n a0.c)] V Q from by kernel_rfl) h)
/-- potsherd/potsherdref3.PutText -/
def f128_n (a0 : Sl) (a1 : Sl) (V : View) (Q : Value → View → Prop) : Prop :=
    CallV Tryz.prog (129 : Nat) (Array.mk [Value.slice (Sl.a a0) (Sl.n a0) (Sl.c a0), Value.int IntKind.i64 (↑(Sl.n a1) : Int)]) V fun (r : Value) (V : View) => ∃ (x : Sl), r = Value.slice (Sl.a x) (Sl.n x) (Sl.c x) ∧ apV V (5 : Nat) (1 : Nat) (1 : Nat) [Value.int IntKind.u8 (0 : Int)] (Sl.mk (Sl.a x) (Sl.n x) (Sl.c x)) (Value.slice (Sl.a a1) (Sl.n a1) (Sl.c a1)) fun (s : Sl) (V : View) => Q (Value.slice (Sl.a s) (Sl.n s) (Sl.c s)) V
def f128_ac : AC := (.seq (.reg ⟨.done, false, [], [], none⟩) (.seq (.reg ⟨.done, false, [], [], none⟩) .leaf))
theorem f128_x {a0 : Sl} {a1 : Sl} {V : View} {Q : Value → View → Prop} (h : f128_n a0 a1 V Q) : CallV Tryz.prog 128 ⟨[(.slice a0.a a0.n a0.c), (.slice a1.a a1.n a1.c)]⟩ V Q :=
  XF_sound (wr := false) Tryz.checked.mixed (enters_of (fn := Tryz.f128) (by kernel_rfl) (by kernel_rfl) (by kernel_rfl)) (fn := Tryz.f128) (by kernel_rfl) (ac := f128_ac)
    (Eq.mp (show f128_n a0 a1 V Q = XF Tryz.prog false Tryz.f128 (f128_ac) [(.slice a0.a a0.n a0.c), (.slice a1.a a1.n a1.c)] V Q from by kernel_rfl) h)
/-- potsherd/potsherdref3.PutNumber -/
def f129_n (a0 : Sl) (a1 : Int) (V : View) (Q : Value → View → Prop) : Prop :=
    loopP [K.int IntKind.i64, K.sl] (fun (x : Int) (x_1 : Sl) (V : View) (J : CurP [K.int IntKind.i64, K.sl]) => newB V (Obj.cells (Array.mk (putL [Value.int IntKind.u8 (0 : Int)] (0 : Nat) [Value.int IntKind.u8 (IntKind.wrap IntKind.u8 (bitsI BinOp.and IntKind.i64 x (127 : Int)))])) (5 : Nat)) fun (r : Nat) (V : View) => apV V (5 : Nat) (1 : Nat) (1 : Nat) [Value.int IntKind.u8 (0 : Int)] (Sl.mk (Sl.a x_1) (Sl.n x_1) (Sl.c x_1)) (Value.slice (some (Addr.mk r (0 : Nat) none)) (1 : Nat) (1 : Nat)) fun (s : Sl) (V : View) => (0 : Int) ≤ (7 : Int) ∧ br (decide (Int.fdiv x ((2 : Int) ^ min (Int.toNat (7 : Int)) (IntKind.bits IntKind.i64)) = (0 : Int))) (inI IntKind.i64 ((↑(Sl.n s) : Int) - (1 : Int)) ∧ loopP [K.sl, K.int IntKind.i64] (fun (x : Sl) (x_2 : Int) (V : View) (J : CurP [K.sl, K.int IntKind.i64]) => br (decide ((0 : Int) ≤ x_2)) ((0 : Int) ≤ x_2 ∧ x_2 < (↑(Sl.n s) : Int) ∧ ∃ (ad : Addr), Sl.a s = some ad ∧ ∃ (x_3 : Int), View.cell? V (Addr.add ad (Int.toNat x_2 * (1 : Nat))) = some (Value.int IntKind.u8 x_3) ∧ joinP [K.int IntKind.u8] (fun (J : CurP [K.int IntKind.u8]) => br (decide ((0 : Int) < x_2)) (J (bitsI BinOp.or IntKind.u8 x_3 (128 : Int)) V) (J x_3 V)) fun (x_4 : Int) (V : View) => newB V (Obj.cells (Array.mk (putL [Value.int IntKind.u8 (0 : Int)] (0 : Nat) [Value.int IntKind.u8 x_4])) (5 : Nat)) fun (r : Nat) (V : View) => apV V (5 : Nat) (1 : Nat) (1 : Nat) [Value.int IntKind.u8 (0 : Int)] (Sl.mk (Sl.a x) (Sl.n x) (Sl.c x)) (Value.slice (some (Addr.mk r (0 : Nat) none)) (1 : Nat) (1 : Nat)) fun (s : Sl) (V : View) => inI IntKind.i64 (x_2 - (1 : Int)) ∧ J (Sl.mk (Sl.a s) (Sl.n s) (Sl.c s)) (x_2 - (1 : Int)) V) (Q (Value.slice (Sl.a x) (Sl.n x) (Sl.c x)) V)) (Sl.mk (Sl.a a0) (Sl.n a0) (Sl.c a0), (↑(Sl.n s) : Int) - (1 : Int), ()) V) (J (Int.fdiv x ((2 : Int) ^ min (Int.toNat (7 : Int)) (IntKind.bits IntKind.i64))) (Sl.mk (Sl.a s) (Sl.n s) (Sl.c s)) V)) (if (if (1099511627776 : Int) < a1 then (1099511627776 : Int) else a1) > (0 : Int) then if (1099511627776 : Int) < a1 then (1099511627776 : Int) else a1 else (0 : Int), Sl.mk none (0 : Nat) (0 : Nat), ()) V
def f129_ac : AC := (.seq (.reg ⟨.done, false, [], [], none⟩) (.seq (.reg ⟨.done, false, [], [], none⟩) (.seq (.reg ⟨.done, false, [], [], none⟩) (.seq (.block none (.loop ⟨[11, 12, 13, 14, 15, 16, 17, 18, 19, 20], [(1, .int .i64), (5, .sl)], []⟩ (.block none (.seq (.reg ⟨.done, false, [], [], none⟩) (.seq (.reg ⟨.done, false, [], [], none⟩) (.seq (.reg ⟨.done, false, [], [], none⟩) (.cond none .leaf .leaf))))))) (.seq (.seq (.reg ⟨.done, false, [], [], none⟩) (.block none (.loop ⟨[7, 24, 25, 26, 27, 28, 29, 30, 31, 32, 33, 34, 35, 36, 37, 38, 39], [(0, .sl), (6, .int .i64)], []⟩ (.seq (.seq (.reg ⟨.done, false, [], [], none⟩) (.cond none .leaf .leaf)) (.seq (.block none (.seq (.reg ⟨.done, false, [], [], none⟩) (.seq (.seq (.reg ⟨.done, false, [], [], none⟩) (.cond (some ⟨[34, 35], [(7, .int .u8)], []⟩) (.reg ⟨.done, false, [], [], none⟩) .leaf)) (.reg ⟨.done, false, [], [], none⟩)))) (.reg ⟨.done, false, [], [], none⟩)))))) (.seq (.reg ⟨.done, false, [], [], none⟩) .leaf))))))
theorem f129_x {a0 : Sl} {a1 : Int} {V : View} {Q : Value → View → Prop} (h : f129_n a0 a1 V Q) : CallV Tryz.prog 129 ⟨[(.slice a0.a a0.n a0.c), (.int .i64 a1)]⟩ V Q :=
  XF_sound (wr := false) Tryz.checked.mixed (enters_of (fn := Tryz.f129) (by kernel_rfl) (by kernel_rfl) (by kernel_rfl)) (fn := Tryz.f129) (by kernel_rfl) (ac := f129_ac)
    (Eq.mp (show f129_n a0 a1 V Q = XF Tryz.prog false Tryz.f129 (f129_ac) [(.slice a0.a a0.n a0.c), (.int .i64 a1)] V Q from by kernel_rfl) h)
/-- potsherd/wear.Ends -/
def f131_n (a0 : Sl) (a1 : Sl) (V : View) (Q : Value → View → Prop) : Prop :=
    CallV Tryz.prog (163 : Nat) (Array.mk [Value.slice (Sl.a a0) (Sl.n a0) (Sl.c a0), Value.slice (Sl.a a1) (Sl.n a1) (Sl.c a1)]) V fun (r : Value) (V : View) => ∃ (x : Sl), ∃ (x_1 : Sl), r = Value.tuple (Array.mk [Value.slice (Sl.a x) (Sl.n x) (Sl.c x), Value.slice (Sl.a x_1) (Sl.n x_1) (Sl.c x_1)]) ∧ br (decide ((↑(Sl.n x_1) : Int) = (0 : Int))) (Q (Value.tuple (Array.mk [Value.int IntKind.i64 (0 : Int), Value.int IntKind.i64 (0 : Int)])) V) (True ∧ ∃ (S : View), View.Le S V ∧ CallV Tryz.prog (164 : Nat) (Array.mk [Value.slice (Sl.a x_1) (Sl.n x_1) (Sl.c x_1)]) V fun (r : Value) (V : View) => ∃ (x : Int), r = Value.int IntKind.i64 x ∧ View.Le S V ∧ ∃ (S' : View), View.Le S S' ∧ View.Le S' V ∧ (0 : Int) ≤ x ∧ x < (↑(Sl.n x_1) : Int) ∧ ∃ (ad : Addr), Sl.a x_1 = some ad ∧ ∃ (x_2 : Int), View.cell? S' (Addr.add ad (Int.toNat x * (1 : Nat))) = some (Value.int IntKind.i64 x_2) ∧ CallV Tryz.prog (165 : Nat) (Array.mk [Value.slice (Sl.a x_1) (Sl.n x_1) (Sl.c x_1)]) V fun (r : Value) (V : View) => ∃ (x : Int), r = Value.int IntKind.i64 x ∧ View.Le S' V ∧ ∃ (S'_1 : View), View.Le S' S'_1 ∧ View.Le S'_1 V ∧ (0 : Int) ≤ x ∧ x < (↑(Sl.n x_1) : Int) ∧ ∃ (ad : Addr), Sl.a x_1 = some ad ∧ ∃ (x_3 : Int), View.cell? S'_1 (Addr.add ad (Int.toNat x * (1 : Nat))) = some (Value.int IntKind.i64 x_3) ∧ Q (Value.tuple (Array.mk [Value.int IntKind.i64 x_2, Value.int IntKind.i64 x_3])) V)
def f131_ac : AC := (.seq (.reg ⟨.done, false, [], [], none⟩) (.seq (.reg ⟨.done, false, [], [], none⟩) (.seq (.seq (.reg ⟨.done, false, [], [], none⟩) (.cond none (.seq (.reg ⟨.done, false, [], [], none⟩) .leaf) .leaf)) (.seq (.reg ⟨(.fl 0 (.fl 1 (.fl 5 (.fl 6 (.alt 2 true true (.fl 3 (.fl 4 (.alt 7 true true (.fl 8 (.fl 9 (.fl 10 (.fl 11 .done)))) .no))) .no))))), true, [], [], none⟩) .leaf))))
theorem f131_x {a0 : Sl} {a1 : Sl} {V : View} {Q : Value → View → Prop} (h : f131_n a0 a1 V Q) : CallV Tryz.prog 131 ⟨[(.slice a0.a a0.n a0.c), (.slice a1.a a1.n a1.c)]⟩ V Q :=
  XF_sound (wr := false) Tryz.checked.mixed (enters_of (fn := Tryz.f131) (by kernel_rfl) (by kernel_rfl) (by kernel_rfl)) (fn := Tryz.f131) (by kernel_rfl) (ac := f131_ac)
    (Eq.mp (show f131_n a0 a1 V Q = XF Tryz.prog false Tryz.f131 (f131_ac) [(.slice a0.a a0.n a0.c), (.slice a1.a a1.n a1.c)] V Q from by kernel_rfl) h)
/-- potsherd/wear.less -/
def f132_n (a0 : Int) (a1 : Int) (V : View) (Q : Value → View → Prop) : Prop :=
    inI IntKind.i64 (a0 - a1) ∧ br (decide (a0 - a1 < (0 : Int))) (Q (Value.int IntKind.i64 (9223372036854775807 : Int)) V) (inI IntKind.i64 (a0 - a1) ∧ Q (Value.int IntKind.i64 (a0 - a1)) V)
def f132_ac : AC := (.seq (.reg ⟨.done, false, [], [], none⟩) (.seq (.seq (.reg ⟨.done, false, [], [], none⟩) (.cond none (.seq (.reg ⟨.done, false, [], [], none⟩) .leaf) .leaf)) (.seq (.reg ⟨.done, false, [], [], none⟩) .leaf)))
theorem f132_x {a0 : Int} {a1 : Int} {V : View} {Q : Value → View → Prop} (h : f132_n a0 a1 V Q) : CallV Tryz.prog 132 ⟨[(.int .i64 a0), (.int .i64 a1)]⟩ V Q :=
  XF_sound (wr := false) Tryz.checked.mixed (enters_of (fn := Tryz.f132) (by kernel_rfl) (by kernel_rfl) (by kernel_rfl)) (fn := Tryz.f132) (by kernel_rfl) (ac := f132_ac)
    (Eq.mp (show f132_n a0 a1 V Q = XF Tryz.prog false Tryz.f132 (f132_ac) [(.int .i64 a0), (.int .i64 a1)] V Q from by kernel_rfl) h)
/-- potsherd/least.Low[int] -/
def f164_n (a0 : Sl) (V : View) (Q : Value → View → Prop) : Prop :=
    loopP [K.int IntKind.i64, K.int IntKind.i64] (fun (x x_1 : Int) (V : View) (J : CurP [K.int IntKind.i64, K.int IntKind.i64]) => br (decide (x_1 < (↑(Sl.n a0) : Int))) ((0 : Int) ≤ x_1 ∧ x_1 < (↑(Sl.n a0) : Int) ∧ ∃ (ad : Addr), Sl.a a0 = some ad ∧ ∃ (x_2 : Int), View.cell? V (Addr.add ad (Int.toNat x_1 * (1 : Nat))) = some (Value.int IntKind.i64 x_2) ∧ joinP [K.bool] (fun (J : CurP [K.bool]) => br (decide (x < (0 : Int))) (J true V) ((0 : Int) ≤ x ∧ x < (↑(Sl.n a0) : Int) ∧ ∃ (ad : Addr), Sl.a a0 = some ad ∧ ∃ (x_3 : Int), View.cell? V (Addr.add ad (Int.toNat x * (1 : Nat))) = some (Value.int IntKind.i64 x_3) ∧ J (decide (x_2 < x_3)) V)) fun (x_3 : Bool) (V : View) => joinP [K.int IntKind.i64] (fun (J : CurP [K.int IntKind.i64]) => br x_3 (J x_1 V) (J x V)) fun (x : Int) (V : View) => inI IntKind.i64 (x_1 + (1 : Int)) ∧ J x (x_1 + (1 : Int)) V) (Q (Value.int IntKind.i64 x) V)) ((-1 : Int), (0 : Int), ()) V
def f164_ac : AC := (.seq (.reg ⟨.done, false, [], [], none⟩) (.seq (.reg ⟨.done, false, [], [], none⟩) (.seq (.seq (.reg ⟨.done, false, [], [], none⟩) (.block none (.loop ⟨[4, 5, 9, 10, 11, 12, 13, 14, 15, 16, 17, 18, 19, 20, 21, 22, 23, 24], [(3, .int .i64), (8, .int .i64)], []⟩ (.seq (.reg ⟨.done, false, [], [], none⟩) (.seq (.cond none .leaf .leaf) (.seq (.block none (.seq (.reg ⟨.done, false, [], [], none⟩) (.seq (.reg ⟨.done, false, [], [], (some ⟨[13, 14, 15, 16, 17, 18, 19, 20, 21], [(22, .bool)], []⟩)⟩) (.cond (some ⟨[23], [(3, .int .i64)], []⟩) (.reg ⟨.done, false, [], [], none⟩) .leaf)))) (.reg ⟨.done, false, [], [], none⟩))))))) (.seq (.reg ⟨.done, false, [], [], none⟩) .leaf))))
theorem f164_x {a0 : Sl} {V : View} {Q : Value → View → Prop} (h : f164_n a0 V Q) : CallV Tryz.prog 164 ⟨[(.slice a0.a a0.n a0.c)]⟩ V Q :=
  XF_sound (wr := false) Tryz.checked.mixed (enters_of (fn := Tryz.f164) (by kernel_rfl) (by kernel_rfl) (by kernel_rfl)) (fn := Tryz.f164) (by kernel_rfl) (ac := f164_ac)
    (Eq.mp (show f164_n a0 V Q = XF Tryz.prog false Tryz.f164 (f164_ac) [(.slice a0.a a0.n a0.c)] V Q from by kernel_rfl) h)
/-- potsherd/least.High[int] -/
def f165_n (a0 : Sl) (V : View) (Q : Value → View → Prop) : Prop :=
    loopP [K.int IntKind.i64, K.int IntKind.i64] (fun (x x_1 : Int) (V : View) (J : CurP [K.int IntKind.i64, K.int IntKind.i64]) => br (decide (x_1 < (↑(Sl.n a0) : Int))) ((0 : Int) ≤ x_1 ∧ x_1 < (↑(Sl.n a0) : Int) ∧ ∃ (ad : Addr), Sl.a a0 = some ad ∧ ∃ (x_2 : Int), View.cell? V (Addr.add ad (Int.toNat x_1 * (1 : Nat))) = some (Value.int IntKind.i64 x_2) ∧ joinP [K.bool] (fun (J : CurP [K.bool]) => br (decide (x < (0 : Int))) (J true V) ((0 : Int) ≤ x ∧ x < (↑(Sl.n a0) : Int) ∧ ∃ (ad : Addr), Sl.a a0 = some ad ∧ ∃ (x_3 : Int), View.cell? V (Addr.add ad (Int.toNat x * (1 : Nat))) = some (Value.int IntKind.i64 x_3) ∧ J (decide (x_3 < x_2)) V)) fun (x_3 : Bool) (V : View) => joinP [K.int IntKind.i64] (fun (J : CurP [K.int IntKind.i64]) => br x_3 (J x_1 V) (J x V)) fun (x : Int) (V : View) => inI IntKind.i64 (x_1 + (1 : Int)) ∧ J x (x_1 + (1 : Int)) V) (Q (Value.int IntKind.i64 x) V)) ((-1 : Int), (0 : Int), ()) V
def f165_ac : AC := (.seq (.reg ⟨.done, false, [], [], none⟩) (.seq (.reg ⟨.done, false, [], [], none⟩) (.seq (.seq (.reg ⟨.done, false, [], [], none⟩) (.block none (.loop ⟨[4, 5, 9, 10, 11, 12, 13, 14, 15, 16, 17, 18, 19, 20, 21, 22, 23, 24], [(3, .int .i64), (8, .int .i64)], []⟩ (.seq (.reg ⟨.done, false, [], [], none⟩) (.seq (.cond none .leaf .leaf) (.seq (.block none (.seq (.reg ⟨.done, false, [], [], none⟩) (.seq (.reg ⟨.done, false, [], [], (some ⟨[13, 14, 15, 16, 17, 18, 19, 20, 21], [(22, .bool)], []⟩)⟩) (.cond (some ⟨[23], [(3, .int .i64)], []⟩) (.reg ⟨.done, false, [], [], none⟩) .leaf)))) (.reg ⟨.done, false, [], [], none⟩))))))) (.seq (.reg ⟨.done, false, [], [], none⟩) .leaf))))
theorem f165_x {a0 : Sl} {V : View} {Q : Value → View → Prop} (h : f165_n a0 V Q) : CallV Tryz.prog 165 ⟨[(.slice a0.a a0.n a0.c)]⟩ V Q :=
  XF_sound (wr := false) Tryz.checked.mixed (enters_of (fn := Tryz.f165) (by kernel_rfl) (by kernel_rfl) (by kernel_rfl)) (fn := Tryz.f165) (by kernel_rfl) (ac := f165_ac)
    (Eq.mp (show f165_n a0 V Q = XF Tryz.prog false Tryz.f165 (f165_ac) [(.slice a0.a a0.n a0.c)] V Q from by kernel_rfl) h)
/-- potsherd/turn.Where -/
def f186_n (a0 : Sl) (V : View) (Q : Value → View → Prop) : Prop :=
    CallV Tryz.prog (197 : Nat) (Array.mk [Value.slice (Sl.a a0) (Sl.n a0) (Sl.c a0)]) V fun (r : Value) (V : View) => ∃ (x : Sl), r = Value.slice (Sl.a x) (Sl.n x) (Sl.c x) ∧ ∀ (b : Nat), View.see V b = none → Q (Value.func (Fn.func (198 : Nat)) (Array.mk []) (Array.mk [Value.pointer (some (Addr.mk b (0 : Nat) none))])) (View.put V b (Obj.cells (Array.mk [Value.slice (Sl.a x) (Sl.n x) (Sl.c x)]) (25 : Nat)))
def f186_ac : AC := (.seq (.reg ⟨.done, false, [], [], none⟩) (.seq (.reg ⟨.done, false, [], [], none⟩) (.seq (.reg ⟨.done, false, [(0, 0)], [], none⟩) .leaf)))
theorem f186_x {a0 : Sl} {V : View} {Q : Value → View → Prop} (h : f186_n a0 V Q) : CallV Tryz.prog 186 ⟨[(.slice a0.a a0.n a0.c)]⟩ V Q :=
  XF_sound (wr := false) Tryz.checked.mixed (enters_of (fn := Tryz.f186) (by kernel_rfl) (by kernel_rfl) (by kernel_rfl)) (fn := Tryz.f186) (by kernel_rfl) (ac := f186_ac)
    (Eq.mp (show f186_n a0 V Q = XF Tryz.prog false Tryz.f186 (f186_ac) [(.slice a0.a a0.n a0.c)] V Q from by kernel_rfl) h)
/-- slices.Clone[[]bool,bool] -/
def f197_n (a0 : Sl) (V : View) (Q : Value → View → Prop) : Prop :=
    br (Option.isNone (Sl.a a0)) (Q (Value.slice none (0 : Nat) (0 : Nat)) V) (newB V (Obj.cells (Array.mk []) (4 : Nat)) fun (r : Nat) (V : View) => apV V (4 : Nat) (1 : Nat) (1 : Nat) [Value.bool false] (Sl.mk (some (Addr.mk r (0 : Nat) none)) (0 : Nat) (0 : Nat)) (Value.slice (Sl.a a0) (Sl.n a0) (Sl.c a0)) fun (s : Sl) (V : View) => Q (Value.slice (Sl.a s) (Sl.n s) (Sl.c s)) V)
def f197_ac : AC := (.seq (.reg ⟨.done, false, [], [], none⟩) (.seq (.seq (.reg ⟨.done, false, [], [], none⟩) (.cond none (.seq (.reg ⟨.done, false, [], [], none⟩) .leaf) .leaf)) (.seq (.reg ⟨.done, false, [], [], none⟩) .leaf)))
theorem f197_x {a0 : Sl} {V : View} {Q : Value → View → Prop} (h : f197_n a0 V Q) : CallV Tryz.prog 197 ⟨[(.slice a0.a a0.n a0.c)]⟩ V Q :=
  XF_sound (wr := false) Tryz.checked.mixed (enters_of (fn := Tryz.f197) (by kernel_rfl) (by kernel_rfl) (by kernel_rfl)) (fn := Tryz.f197) (by kernel_rfl) (ac := f197_ac)
    (Eq.mp (show f197_n a0 V Q = XF Tryz.prog false Tryz.f197 (f197_ac) [(.slice a0.a a0.n a0.c)] V Q from by kernel_rfl) h)
/-- slices.Values[[]potsherd/api.Ref,potsherd/api.Ref] -/
def f57_n (a0 : Sl) (V : View) (Q : Value → View → Prop) : Prop :=
    ∀ (b : Nat), View.see V b = none → Q (Value.func (Fn.func (98 : Nat)) (Array.mk []) (Array.mk [Value.pointer (some (Addr.mk b (0 : Nat) none))])) (View.put V b (Obj.cells (Array.mk [Value.slice (Sl.a a0) (Sl.n a0) (Sl.c a0)]) (44 : Nat)))
def f57_ac : AC := (.seq (.reg ⟨.done, false, [], [], none⟩) (.seq (.reg ⟨.done, false, [(0, 0)], [], none⟩) .leaf))
theorem f57_x {a0 : Sl} {V : View} {Q : Value → View → Prop} (h : f57_n a0 V Q) : CallV Tryz.prog 57 ⟨[(.slice a0.a a0.n a0.c)]⟩ V Q :=
  XF_sound (wr := false) Tryz.checked.mixed (enters_of (fn := Tryz.f57) (by kernel_rfl) (by kernel_rfl) (by kernel_rfl)) (fn := Tryz.f57) (by kernel_rfl) (ac := f57_ac)
    (Eq.mp (show f57_n a0 V Q = XF Tryz.prog false Tryz.f57 (f57_ac) [(.slice a0.a a0.n a0.c)] V Q from by kernel_rfl) h)
/-- slices.SortedFunc[potsherd/api.Ref] -/
def f56_n (g0 : FuncId) (x0 : List Value) (y0 : List Value) (g1 : FuncId) (x1 : List Value) (y1 : List Value) (V : View) (Q : Value → View → Prop) : Prop :=
    CallV Tryz.prog (96 : Nat) (Array.mk [Value.func (Fn.func g0) (Array.mk x0) (Array.mk y0)]) V fun (r : Value) (V : View) => ∃ (x : Sl), r = Value.slice (Sl.a x) (Sl.n x) (Sl.c x) ∧ CallV Tryz.prog (97 : Nat) (Array.mk [Value.slice (Sl.a x) (Sl.n x) (Sl.c x), Value.func (Fn.func g1) (Array.mk x1) (Array.mk y1)]) V fun (r : Value) (V : View) => r = Value.tuple (Array.mk []) ∧ Q (Value.slice (Sl.a x) (Sl.n x) (Sl.c x)) V
def f56_ac : AC := (.seq (.reg ⟨.done, false, [], [], none⟩) (.seq (.reg ⟨.done, false, [], [], none⟩) (.seq (.reg ⟨.done, false, [], [], none⟩) (.seq (.reg ⟨.done, false, [], [], none⟩) .leaf))))
theorem f56_x {g0 : FuncId} {x0 : List Value} {y0 : List Value} {g1 : FuncId} {x1 : List Value} {y1 : List Value} {V : View} {Q : Value → View → Prop} (h : f56_n g0 x0 y0 g1 x1 y1 V Q) : CallV Tryz.prog 56 ⟨[(.func (.func g0) ⟨x0⟩ ⟨y0⟩), (.func (.func g1) ⟨x1⟩ ⟨y1⟩)]⟩ V Q :=
  XF_sound (wr := false) Tryz.checked.mixed (enters_of (fn := Tryz.f56) (by kernel_rfl) (by kernel_rfl) (by kernel_rfl)) (fn := Tryz.f56) (by kernel_rfl) (ac := f56_ac)
    (Eq.mp (show f56_n g0 x0 y0 g1 x1 y1 V Q = XF Tryz.prog false Tryz.f56 (f56_ac) [(.func (.func g0) ⟨x0⟩ ⟨y0⟩), (.func (.func g1) ⟨x1⟩ ⟨y1⟩)] V Q from by kernel_rfl) h)
/-- slices.Collect[potsherd/api.Ref] -/
def f96_n (g0 : FuncId) (x0 : List Value) (y0 : List Value) (V : View) (Q : Value → View → Prop) : Prop :=
    CallV Tryz.prog (126 : Nat) (Array.mk [Value.slice none (0 : Nat) (0 : Nat), Value.func (Fn.func g0) (Array.mk x0) (Array.mk y0)]) V fun (r : Value) (V : View) => ∃ (x : Sl), r = Value.slice (Sl.a x) (Sl.n x) (Sl.c x) ∧ Q (Value.slice (Sl.a x) (Sl.n x) (Sl.c x)) V
def f96_ac : AC := (.seq (.reg ⟨.done, false, [], [], none⟩) (.seq (.reg ⟨.done, false, [], [], none⟩) .leaf))
theorem f96_x {g0 : FuncId} {x0 : List Value} {y0 : List Value} {V : View} {Q : Value → View → Prop} (h : f96_n g0 x0 y0 V Q) : CallV Tryz.prog 96 ⟨[(.func (.func g0) ⟨x0⟩ ⟨y0⟩)]⟩ V Q :=
  XF_sound (wr := false) Tryz.checked.mixed (enters_of (fn := Tryz.f96) (by kernel_rfl) (by kernel_rfl) (by kernel_rfl)) (fn := Tryz.f96) (by kernel_rfl) (ac := f96_ac)
    (Eq.mp (show f96_n g0 x0 y0 V Q = XF Tryz.prog false Tryz.f96 (f96_ac) [(.func (.func g0) ⟨x0⟩ ⟨y0⟩)] V Q from by kernel_rfl) h)
/-- slices.SortFunc[[]potsherd/api.Ref,potsherd/api.Ref] -/
def f97_n (a0 : Sl) (g1 : FuncId) (x1 : List Value) (y1 : List Value) (V : View) (Q : Value → View → Prop) : Prop :=
    CallV Tryz.prog (125 : Nat) (Array.mk [Value.int IntKind.u64 (IntKind.wrap IntKind.u64 (↑(Sl.n a0) : Int))]) V fun (r : Value) (V : View) => ∃ (x : Int), r = Value.int IntKind.i64 x ∧ CallV Tryz.prog (127 : Nat) (Array.mk [Value.slice (Sl.a a0) (Sl.n a0) (Sl.c a0), Value.int IntKind.i64 (0 : Int), Value.int IntKind.i64 (↑(Sl.n a0) : Int), Value.int IntKind.i64 x, Value.func (Fn.func g1) (Array.mk x1) (Array.mk y1)]) V fun (r : Value) (V : View) => r = Value.tuple (Array.mk []) ∧ Q (Value.tuple (Array.mk [])) V
def f97_ac : AC := (.seq (.reg ⟨.done, false, [], [], none⟩) (.reg ⟨.done, false, [], [], none⟩))
theorem f97_x {a0 : Sl} {g1 : FuncId} {x1 : List Value} {y1 : List Value} {V : View} {Q : Value → View → Prop} (h : f97_n a0 g1 x1 y1 V Q) : CallV Tryz.prog 97 ⟨[(.slice a0.a a0.n a0.c), (.func (.func g1) ⟨x1⟩ ⟨y1⟩)]⟩ V Q :=
  XF_sound (wr := false) Tryz.checked.mixed (enters_of (fn := Tryz.f97) (by kernel_rfl) (by kernel_rfl) (by kernel_rfl)) (fn := Tryz.f97) (by kernel_rfl) (ac := f97_ac)
    (Eq.mp (show f97_n a0 g1 x1 y1 V Q = XF Tryz.prog false Tryz.f97 (f97_ac) [(.slice a0.a a0.n a0.c), (.func (.func g1) ⟨x1⟩ ⟨y1⟩)] V Q from by kernel_rfl) h)
/-- slices.pdqsortCmpFunc[potsherd/api.Ref] -/
def f127_n (a0 : Sl) (a1 : Int) (a2 : Int) (a3 : Int) (g4 : FuncId) (x4 : List Value) (y4 : List Value) (V : View) (Q : Value → View → Prop) : Prop :=
    loopP [K.int IntKind.i64, K.int IntKind.i64, K.int IntKind.i64, K.bool, K.bool] (fun (x x_1 x_2 : Int) (x_3 x_4 : Bool) (V : View) (J : CurP [K.int IntKind.i64, K.int IntKind.i64, K.int IntKind.i64, K.bool, K.bool]) => joinP [K.int IntKind.i64, K.int IntKind.i64, K.int IntKind.i64, K.bool, K.bool] (fun (J : CurP [K.int IntKind.i64, K.int IntKind.i64, K.int IntKind.i64, K.bool, K.bool]) => inI IntKind.i64 (x_1 - x) ∧ br (decide (x_1 - x ≤ (12 : Int))) (CallV Tryz.prog (155 : Nat) (Array.mk [Value.slice (Sl.a a0) (Sl.n a0) (Sl.c a0), Value.int IntKind.i64 x, Value.int IntKind.i64 x_1, Value.func (Fn.func g4) (Array.mk x4) (Array.mk y4)]) V fun (r : Value) (V : View) => r = Value.tuple (Array.mk []) ∧ Q (Value.tuple (Array.mk [])) V) (br (decide (x_2 = (0 : Int))) (CallV Tryz.prog (156 : Nat) (Array.mk [Value.slice (Sl.a a0) (Sl.n a0) (Sl.c a0), Value.int IntKind.i64 x, Value.int IntKind.i64 x_1, Value.func (Fn.func g4) (Array.mk x4) (Array.mk y4)]) V fun (r : Value) (V : View) => r = Value.tuple (Array.mk []) ∧ Q (Value.tuple (Array.mk [])) V) (joinP [K.int IntKind.i64] (fun (J : CurP [K.int IntKind.i64]) => br (!x_3) (CallV Tryz.prog (157 : Nat) (Array.mk [Value.slice (Sl.a a0) (Sl.n a0) (Sl.c a0), Value.int IntKind.i64 x, Value.int IntKind.i64 x_1, Value.func (Fn.func g4) (Array.mk x4) (Array.mk y4)]) V fun (r : Value) (V : View) => r = Value.tuple (Array.mk []) ∧ inI IntKind.i64 (x_2 - (1 : Int)) ∧ J (x_2 - (1 : Int)) V) (J x_2 V)) fun (x_5 : Int) (V : View) => CallV Tryz.prog (158 : Nat) (Array.mk [Value.slice (Sl.a a0) (Sl.n a0) (Sl.c a0), Value.int IntKind.i64 x, Value.int IntKind.i64 x_1, Value.func (Fn.func g4) (Array.mk x4) (Array.mk y4)]) V fun (r : Value) (V : View) => ∃ (x_6 : Int), ∃ (x_7 : Int), r = Value.tuple (Array.mk [Value.int IntKind.i64 x_6, Value.int IntKind.i64 x_7]) ∧ joinP [K.int IntKind.i64, K.int IntKind.i64] (fun (J : CurP [K.int IntKind.i64, K.int IntKind.i64]) => br (decide (x_7 = (2 : Int))) (CallV Tryz.prog (159 : Nat) (Array.mk [Value.slice (Sl.a a0) (Sl.n a0) (Sl.c a0), Value.int IntKind.i64 x, Value.int IntKind.i64 x_1, Value.func (Fn.func g4) (Array.mk x4) (Array.mk y4)]) V fun (r : Value) (V : View) => r = Value.tuple (Array.mk []) ∧ inI IntKind.i64 (x_1 - (1 : Int)) ∧ inI IntKind.i64 (x_6 - x) ∧ inI IntKind.i64 (x_1 - (1 : Int) - (x_6 - x)) ∧ J (x_1 - (1 : Int) - (x_6 - x)) (1 : Int) V) (J x_6 x_7 V)) fun (x_8 x_9 : Int) (V : View) => joinP [] (fun (J : CurP []) => br (bif bif x_3 then x_4 else false then decide (x_9 = (1 : Int)) else false) (CallV Tryz.prog (160 : Nat) (Array.mk [Value.slice (Sl.a a0) (Sl.n a0) (Sl.c a0), Value.int IntKind.i64 x, Value.int IntKind.i64 x_1, Value.func (Fn.func g4) (Array.mk x4) (Array.mk y4)]) V fun (r : Value) (V : View) => ∃ (x : Bool), r = Value.bool x ∧ br x (Q (Value.tuple (Array.mk [])) V) (J V)) (J V)) fun (V : View) => joinP [K.bool] (fun (J : CurP [K.bool]) => True ∧ ∃ (S : View), View.Le S V ∧ br (decide ((0 : Int) < x)) (inI IntKind.i64 (x - (1 : Int)) ∧ (0 : Int) ≤ x - (1 : Int) ∧ x - (1 : Int) < (↑(Sl.n a0) : Int) ∧ ∃ (ad : Addr), Sl.a a0 = some ad ∧ ∃ (x_10 : Int), ∃ (x_11 : Int), cellsAt S (Addr.add ad (Int.toNat (x - (1 : Int)) * (2 : Nat))) [Value.int IntKind.i64 x_10, Value.int IntKind.i64 x_11] ∧ (0 : Int) ≤ x_8 ∧ x_8 < (↑(Sl.n a0) : Int) ∧ ∃ (ad : Addr), Sl.a a0 = some ad ∧ ∃ (x : Int), ∃ (x_12 : Int), cellsAt S (Addr.add ad (Int.toNat x_8 * (2 : Nat))) [Value.int IntKind.i64 x, Value.int IntKind.i64 x_12] ∧ CallV Tryz.prog g4 (Array.mk (Array.toList (Array.mk x4) ++ [Value.agg (Array.mk [Value.int IntKind.i64 x_10, Value.int IntKind.i64 x_11]), Value.agg (Array.mk [Value.int IntKind.i64 x, Value.int IntKind.i64 x_12])] ++ Array.toList (Array.mk y4))) V fun (r : Value) (V : View) => ∃ (x : Int), r = Value.int IntKind.i64 x ∧ J (!decide (x < (0 : Int))) V) (J false V)) fun (x_10 : Bool) (V : View) => br x_10 (CallV Tryz.prog (161 : Nat) (Array.mk [Value.slice (Sl.a a0) (Sl.n a0) (Sl.c a0), Value.int IntKind.i64 x, Value.int IntKind.i64 x_1, Value.int IntKind.i64 x_8, Value.func (Fn.func g4) (Array.mk x4) (Array.mk y4)]) V fun (r : Value) (V : View) => ∃ (x : Int), r = Value.int IntKind.i64 x ∧ J x x_1 x_5 x_3 x_4 V) (CallV Tryz.prog (162 : Nat) (Array.mk [Value.slice (Sl.a a0) (Sl.n a0) (Sl.c a0), Value.int IntKind.i64 x, Value.int IntKind.i64 x_1, Value.int IntKind.i64 x_8, Value.func (Fn.func g4) (Array.mk x4) (Array.mk y4)]) V fun (r : Value) (V : View) => ∃ (x_11 : Int), ∃ (x_12 : Bool), r = Value.tuple (Array.mk [Value.int IntKind.i64 x_11, Value.bool x_12]) ∧ inI IntKind.i64 (x_11 - x) ∧ inI IntKind.i64 (x_1 - x_11) ∧ (8 : Int) ≠ (0 : Int) ∧ inI IntKind.i64 (Int.tdiv (x_1 - x) (8 : Int)) ∧ joinP [K.int IntKind.i64, K.int IntKind.i64, K.bool] (fun (J : CurP [K.int IntKind.i64, K.int IntKind.i64, K.bool]) => br (decide (x_11 - x < x_1 - x_11)) (CallV Tryz.prog (127 : Nat) (Array.mk [Value.slice (Sl.a a0) (Sl.n a0) (Sl.c a0), Value.int IntKind.i64 x, Value.int IntKind.i64 x_11, Value.int IntKind.i64 x_5, Value.func (Fn.func g4) (Array.mk x4) (Array.mk y4)]) V fun (r : Value) (V : View) => r = Value.tuple (Array.mk []) ∧ inI IntKind.i64 (x_11 + (1 : Int)) ∧ J (x_11 + (1 : Int)) x_1 (decide (Int.tdiv (x_1 - x) (8 : Int) ≤ x_11 - x)) V) (inI IntKind.i64 (x_11 + (1 : Int)) ∧ CallV Tryz.prog (127 : Nat) (Array.mk [Value.slice (Sl.a a0) (Sl.n a0) (Sl.c a0), Value.int IntKind.i64 (x_11 + (1 : Int)), Value.int IntKind.i64 x_1, Value.int IntKind.i64 x_5, Value.func (Fn.func g4) (Array.mk x4) (Array.mk y4)]) V fun (r : Value) (V : View) => r = Value.tuple (Array.mk []) ∧ J x x_11 (decide (Int.tdiv (x_1 - x) (8 : Int) ≤ x_1 - x_11)) V)) fun (x x_13 : Int) (x_14 : Bool) (V : View) => J x x_13 x_5 x_14 x_12 V)))) fun (x x_5 x_6 : Int) (x_7 x_8 : Bool) (V : View) => J x x_5 x_6 x_7 x_8 V) (a1, a2, a3, true, true, ()) V
def f127_ac : AC := (.seq (.reg ⟨.done, false, [], [], none⟩) (.seq (.reg ⟨.done, false, [], [], none⟩) (.block none (.loop ⟨[12, 13, 14, 15, 16, 17, 18, 19, 20, 21, 22, 23, 24, 25, 31, 32, 38, 39, 40, 41, 42, 43, 44, 45, 46, 47, 48, 49, 50, 51, 52, 53, 54, 55, 56, 57, 58, 59, 60, 61, 62, 63, 64, 65, 66, 67, 68, 69, 70, 71, 72, 73, 74, 75, 76, 77, 78, 79, 80, 81, 82, 83, 84, 85, 86, 87, 88, 89, 90, 91, 92, 93, 94, 95, 96, 97, 98, 99, 100, 101, 102, 103, 104, 105, 106, 107, 108, 109, 110, 111, 112, 113, 114, 115, 116, 117, 118, 119, 120, 121, 122, 123, 124, 125, 126, 127, 128, 129, 130, 131, 132, 133, 134, 135, 136, 137, 138, 139, 140, 141, 142, 143, 144, 145, 146, 147], [(1, .int .i64), (2, .int .i64), (3, .int .i64), (10, .bool), (11, .bool)], []⟩ (.block (some ⟨[12, 13, 14, 15, 16, 17, 18, 19, 20, 21, 22, 23, 24, 25, 31, 32, 38, 39, 40, 41, 42, 43, 44, 45, 46, 47, 48, 49, 50, 51, 52, 53, 54, 55, 56, 57, 58, 59, 60, 61, 62, 63, 64, 65, 66, 67, 68, 69, 70, 71, 72, 73, 74, 75, 76, 77, 78, 79, 80, 81, 82, 83, 84, 85, 86, 87, 88, 89, 90, 91, 92, 93, 94, 95, 96, 97, 98, 99, 100, 101, 102, 103, 104, 105, 106, 107, 108, 109, 110, 111, 112, 113, 114, 115, 116, 117, 118, 119, 120, 121, 122, 123, 124, 125, 126, 127, 128, 129, 130, 131, 132, 133, 134, 135, 136, 137, 138, 139, 140, 141, 142, 143, 144, 145, 146, 147], [(1, .int .i64), (2, .int .i64), (3, .int .i64), (10, .bool), (11, .bool)], []⟩) (.seq (.reg ⟨.done, false, [], [], none⟩) (.seq (.seq (.reg ⟨.done, false, [], [], none⟩) (.cond none (.seq (.reg ⟨.done, false, [], [], none⟩) .leaf) .leaf)) (.seq (.seq (.reg ⟨.done, false, [], [], none⟩) (.cond none (.seq (.reg ⟨.done, false, [], [], none⟩) .leaf) .leaf)) (.seq (.seq (.reg ⟨.done, false, [], [], none⟩) (.cond (some ⟨[40, 41, 42, 43, 44, 45, 46], [(3, .int .i64)], []⟩) (.seq (.reg ⟨.done, false, [], [], none⟩) (.reg ⟨.done, false, [], [], none⟩)) .leaf)) (.seq (.reg ⟨.done, false, [], [], none⟩) (.seq (.seq (.reg ⟨.done, false, [], [], none⟩) (.cond (some ⟨[57, 58, 59, 60, 61, 62, 63, 64, 65, 66, 67], [(13, .int .i64), (14, .int .i64)], []⟩) (.seq (.reg ⟨.done, false, [], [], none⟩) (.seq (.reg ⟨.done, false, [], [], none⟩) (.reg ⟨.done, false, [], [], none⟩))) .leaf)) (.seq (.seq (.reg ⟨.done, false, [], [], none⟩) (.cond (some ⟨[76, 77, 78, 79, 80], [], []⟩) (.seq (.reg ⟨.done, false, [], [], none⟩) (.cond none .leaf .leaf)) .leaf)) (.seq (.seq (.reg ⟨(.fl 0 (.fl 1 (.fl 2 (.fl 3 (.fl 4 (.fl 5 (.fl 6 (.fl 7 (.fl 8 (.fl 9 (.fl 10 (.fl 11 (.fl 12 (.alt 13 false false (.fl 14 (.fl 15 (.fl 16 .done))) .no)))))))))))))), true, [], [], (some ⟨[81, 82, 83, 84, 85, 86, 87, 88, 89, 90, 91, 92, 93, 94, 95, 96], [(97, .bool)], []⟩)⟩) (.cond none (.seq (.reg ⟨.done, false, [], [], none⟩) (.seq (.reg ⟨.done, false, [], [], none⟩) .leaf)) .leaf)) (.seq (.reg ⟨.done, false, [], [], none⟩) (.seq (.reg ⟨.done, false, [], [], none⟩) (.seq (.reg ⟨.done, false, [], [], none⟩) (.seq (.reg ⟨.done, false, [], [], none⟩) (.seq (.reg ⟨.done, false, [], [], none⟩) (.cond (some ⟨[126, 127, 128, 129, 130, 131, 132, 133, 134, 135, 136, 137, 138, 139, 140, 141, 142, 143, 144, 145, 146, 147], [(1, .int .i64), (2, .int .i64), (10, .bool)], []⟩) (.seq (.reg ⟨.done, false, [], [], none⟩) (.seq (.reg ⟨.done, false, [], [], none⟩) (.reg ⟨.done, false, [], [], none⟩))) (.seq (.reg ⟨.done, false, [], [], none⟩) (.seq (.reg ⟨.done, false, [], [], none⟩) (.reg ⟨.done, false, [], [], none⟩))))))))))))))))))))))
theorem f127_x {a0 : Sl} {a1 : Int} {a2 : Int} {a3 : Int} {g4 : FuncId} {x4 : List Value} {y4 : List Value} {V : View} {Q : Value → View → Prop} (h : f127_n a0 a1 a2 a3 g4 x4 y4 V Q) : CallV Tryz.prog 127 ⟨[(.slice a0.a a0.n a0.c), (.int .i64 a1), (.int .i64 a2), (.int .i64 a3), (.func (.func g4) ⟨x4⟩ ⟨y4⟩)]⟩ V Q :=
  XF_sound (wr := false) Tryz.checked.mixed (enters_of (fn := Tryz.f127) (by kernel_rfl) (by kernel_rfl) (by kernel_rfl)) (fn := Tryz.f127) (by kernel_rfl) (ac := f127_ac)
    (Eq.mp (show f127_n a0 a1 a2 a3 g4 x4 y4 V Q = XF Tryz.prog false Tryz.f127 (f127_ac) [(.slice a0.a a0.n a0.c), (.int .i64 a1), (.int .i64 a2), (.int .i64 a3), (.func (.func g4) ⟨x4⟩ ⟨y4⟩)] V Q from by kernel_rfl) h)
/-- slices.insertionSortCmpFunc[potsherd/api.Ref] -/
def f155_n (a0 : Sl) (a1 : Int) (a2 : Int) (g3 : FuncId) (x3 : List Value) (y3 : List Value) (V : View) (Q : Value → View → Prop) : Prop :=
    inI IntKind.i64 (a1 + (1 : Int)) ∧ loopP [K.int IntKind.i64] (fun (x : Int) (V : View) (J : CurP [K.int IntKind.i64]) => br (decide (x < a2)) (loopP [K.int IntKind.i64] (fun (x_1 : Int) (V : View) (J_1 : CurP [K.int IntKind.i64]) => joinP [K.bool] (fun (J : CurP [K.bool]) => True ∧ ∃ (S : View), View.Le S V ∧ br (decide (a1 < x_1)) ((0 : Int) ≤ x_1 ∧ x_1 < (↑(Sl.n a0) : Int) ∧ ∃ (ad : Addr), Sl.a a0 = some ad ∧ ∃ (x : Int), ∃ (x_2 : Int), cellsAt S (Addr.add ad (Int.toNat x_1 * (2 : Nat))) [Value.int IntKind.i64 x, Value.int IntKind.i64 x_2] ∧ inI IntKind.i64 (x_1 - (1 : Int)) ∧ (0 : Int) ≤ x_1 - (1 : Int) ∧ x_1 - (1 : Int) < (↑(Sl.n a0) : Int) ∧ ∃ (ad : Addr), Sl.a a0 = some ad ∧ ∃ (x_3 : Int), ∃ (x_4 : Int), cellsAt S (Addr.add ad (Int.toNat (x_1 - (1 : Int)) * (2 : Nat))) [Value.int IntKind.i64 x_3, Value.int IntKind.i64 x_4] ∧ CallV Tryz.prog g3 (Array.mk (Array.toList (Array.mk x3) ++ [Value.agg (Array.mk [Value.int IntKind.i64 x, Value.int IntKind.i64 x_2]), Value.agg (Array.mk [Value.int IntKind.i64 x_3, Value.int IntKind.i64 x_4])] ++ Array.toList (Array.mk y3))) V fun (r : Value) (V : View) => ∃ (x : Int), r = Value.int IntKind.i64 x ∧ J (decide (x < (0 : Int))) V) (J false V)) fun (x_2 : Bool) (V : View) => br x_2 (True ∧ ∃ (S : View), View.Le S V ∧ inI IntKind.i64 (x_1 - (1 : Int)) ∧ inI IntKind.i64 (x_1 - (1 : Int)) ∧ (0 : Int) ≤ x_1 - (1 : Int) ∧ x_1 - (1 : Int) < (↑(Sl.n a0) : Int) ∧ ∃ (ad : Addr), Sl.a a0 = some ad ∧ ∃ (x : Int), ∃ (x_3 : Int), cellsAt S (Addr.add ad (Int.toNat (x_1 - (1 : Int)) * (2 : Nat))) [Value.int IntKind.i64 x, Value.int IntKind.i64 x_3] ∧ (0 : Int) ≤ x_1 ∧ x_1 < (↑(Sl.n a0) : Int) ∧ ∃ (ad : Addr), Sl.a a0 = some ad ∧ ∃ (x_4 : Int), ∃ (x_5 : Int), cellsAt S (Addr.add ad (Int.toNat x_1 * (2 : Nat))) [Value.int IntKind.i64 x_4, Value.int IntKind.i64 x_5] ∧ (0 : Int) ≤ x_1 ∧ x_1 < (↑(Sl.n a0) : Int) ∧ ∃ (ad : Addr), Sl.a a0 = some ad ∧ canSet V (Addr.add ad (Int.toNat x_1 * (2 : Nat))) (Nat.succ (nat_lit 1)) ∧ (0 : Int) ≤ x_1 - (1 : Int) ∧ x_1 - (1 : Int) < (↑(Sl.n a0) : Int) ∧ ∃ (ad_1 : Addr), Sl.a a0 = some ad_1 ∧ canSet (View.sets V (Addr.add ad (Int.toNat x_1 * (2 : Nat))) [Value.int IntKind.i64 x, Value.int IntKind.i64 x_3]) (Addr.add ad_1 (Int.toNat (x_1 - (1 : Int)) * (2 : Nat))) (Nat.succ (nat_lit 1)) ∧ inI IntKind.i64 (x_1 - (1 : Int)) ∧ J_1 (x_1 - (1 : Int)) (View.sets (View.sets V (Addr.add ad (Int.toNat x_1 * (2 : Nat))) [Value.int IntKind.i64 x, Value.int IntKind.i64 x_3]) (Addr.add ad_1 (Int.toNat (x_1 - (1 : Int)) * (2 : Nat))) [Value.int IntKind.i64 x_4, Value.int IntKind.i64 x_5])) (inI IntKind.i64 (x + (1 : Int)) ∧ J (x + (1 : Int)) V)) (x, ()) V) (Q (Value.tuple (Array.mk [])) V)) (a1 + (1 : Int), ()) V
def f155_ac : AC := (.seq (.reg ⟨.done, false, [], [], none⟩) (.block none (.loop ⟨[9, 12, 13, 14, 15, 16, 17, 18, 19, 20, 21, 22, 23, 24, 25, 26, 27, 28, 29, 30, 31, 32, 33, 34, 35, 36, 37, 38, 39, 40, 41, 42, 43, 44, 45, 46, 47, 48, 49, 50, 51, 52], [(8, .int .i64)], []⟩ (.seq (.seq (.reg ⟨.done, false, [], [], none⟩) (.cond none .leaf .leaf)) (.seq (.block none (.seq (.reg ⟨.done, false, [], [], none⟩) (.block none (.loop ⟨[18, 19, 20, 21, 22, 23, 24, 25, 26, 27, 28, 29, 30, 31, 32, 33, 34, 35, 36, 37, 38, 39, 40, 41, 42, 43, 44, 45, 46, 47, 48, 49, 50, 51, 52], [(9, .int .i64)], []⟩ (.seq (.seq (.reg ⟨(.fl 0 (.fl 1 (.fl 2 (.fl 3 (.fl 4 (.fl 5 (.fl 6 (.fl 7 (.fl 8 (.fl 9 (.fl 10 (.fl 11 (.fl 12 (.fl 13 (.alt 14 false false (.fl 15 (.fl 16 .done)) .no))))))))))))))), true, [], [], (some ⟨[18, 19, 20, 21, 22, 23, 24, 25, 26, 27, 28, 29, 30, 31, 32, 33], [(34, .bool)], []⟩)⟩) (.cond none .leaf .leaf)) (.seq (.block none (.reg ⟨(.fl 0 (.fl 1 (.fl 2 (.fl 3 (.fl 4 (.fl 5 (.fl 6 (.fl 7 (.fl 8 (.fl 9 (.fl 10 (.fl 11 (.fl 12 (.fl 13 (.fl 14 (.alt 15 false false (.fl 16 (.alt 17 false false .done .no)) .no)))))))))))))))), true, [], [], none⟩)) (.reg ⟨.done, false, [], [], none⟩))))))) (.reg ⟨.done, false, [], [], none⟩))))))
theorem f155_x {a0 : Sl} {a1 : Int} {a2 : Int} {g3 : FuncId} {x3 : List Value} {y3 : List Value} {V : View} {Q : Value → View → Prop} (h : f155_n a0 a1 a2 g3 x3 y3 V Q) : CallV Tryz.prog 155 ⟨[(.slice a0.a a0.n a0.c), (.int .i64 a1), (.int .i64 a2), (.func (.func g3) ⟨x3⟩ ⟨y3⟩)]⟩ V Q :=
  XF_sound (wr := false) Tryz.checked.mixed (enters_of (fn := Tryz.f155) (by kernel_rfl) (by kernel_rfl) (by kernel_rfl)) (fn := Tryz.f155) (by kernel_rfl) (ac := f155_ac)
    (Eq.mp (show f155_n a0 a1 a2 g3 x3 y3 V Q = XF Tryz.prog false Tryz.f155 (f155_ac) [(.slice a0.a a0.n a0.c), (.int .i64 a1), (.int .i64 a2), (.func (.func g3) ⟨x3⟩ ⟨y3⟩)] V Q from by kernel_rfl) h)
/-- math/bits.Len -/
def f125_n (a0 : Int) (V : View) (Q : Value → View → Prop) : Prop :=
    CallV Tryz.prog (154 : Nat) (Array.mk [Value.int IntKind.u64 a0]) V fun (r : Value) (V : View) => ∃ (x : Int), r = Value.int IntKind.i64 x ∧ Q (Value.int IntKind.i64 x) V
def f125_ac : AC := (.seq (.reg ⟨.done, false, [], [], none⟩) (.seq (.cond none (.seq (.reg ⟨.done, false, [], [], none⟩) .leaf) .leaf) (.seq (.reg ⟨.done, false, [], [], none⟩) .leaf)))
theorem f125_x {a0 : Int} {V : View} {Q : Value → View → Prop} (h : f125_n a0 V Q) : CallV Tryz.prog 125 ⟨[(.int .u64 a0)]⟩ V Q :=
  XF_sound (wr := false) Tryz.checked.mixed (enters_of (fn := Tryz.f125) (by kernel_rfl) (by kernel_rfl) (by kernel_rfl)) (fn := Tryz.f125) (by kernel_rfl) (ac := f125_ac)
    (Eq.mp (show f125_n a0 V Q = XF Tryz.prog false Tryz.f125 (f125_ac) [(.int .u64 a0)] V Q from by kernel_rfl) h)
/-- math/bits.Len64 -/
def f154_n (a0 : Int) (V : View) (Q : Value → View → Prop) : Prop :=
    joinP [K.int IntKind.u64, K.int IntKind.i64] (fun (J : CurP [K.int IntKind.u64, K.int IntKind.i64]) => br (decide ((4294967296 : Int) ≤ a0)) ((0 : Int) ≤ (32 : Int) ∧ J (Int.fdiv a0 ((2 : Int) ^ min (Int.toNat (32 : Int)) (IntKind.bits IntKind.u64))) (32 : Int) V) (J a0 (0 : Int) V)) fun (x x_1 : Int) (V : View) => joinP [K.int IntKind.u64, K.int IntKind.i64] (fun (J : CurP [K.int IntKind.u64, K.int IntKind.i64]) => br (decide ((65536 : Int) ≤ x)) ((0 : Int) ≤ (16 : Int) ∧ inI IntKind.i64 (x_1 + (16 : Int)) ∧ J (Int.fdiv x ((2 : Int) ^ min (Int.toNat (16 : Int)) (IntKind.bits IntKind.u64))) (x_1 + (16 : Int)) V) (J x x_1 V)) fun (x x_2 : Int) (V : View) => joinP [K.int IntKind.u64, K.int IntKind.i64] (fun (J : CurP [K.int IntKind.u64, K.int IntKind.i64]) => br (decide ((256 : Int) ≤ x)) ((0 : Int) ≤ (8 : Int) ∧ inI IntKind.i64 (x_2 + (8 : Int)) ∧ J (Int.fdiv x ((2 : Int) ^ min (Int.toNat (8 : Int)) (IntKind.bits IntKind.u64))) (x_2 + (8 : Int)) V) (J x x_2 V)) fun (x x_3 : Int) (V : View) => (0 : Int) ≤ IntKind.wrap IntKind.u8 x ∧ IntKind.wrap IntKind.u8 x < (↑(ByteArray.size (ByteArray.mk (List.toArray (List.append (List.append [(0 : UInt8), (1 : UInt8), (2 : UInt8), (2 : UInt8), (3 : UInt8), (3 : UInt8), (3 : UInt8), (3 : UInt8), (4 : UInt8), (4 : UInt8), (4 : UInt8), (4 : UInt8), (4 : UInt8), (4 : UInt8), (4 : UInt8), (4 : UInt8), (5 : UInt8), (5 : UInt8), (5 : UInt8), (5 : UInt8), (5 : UInt8), (5 : UInt8), (5 : UInt8), (5 : UInt8), (5 : UInt8), (5 : UInt8), (5 : UInt8), (5 : UInt8), (5 : UInt8), (5 : UInt8), (5 : UInt8), (5 : UInt8), (6 : UInt8), (6 : UInt8), (6 : UInt8), (6 : UInt8), (6 : UInt8), (6 : UInt8), (6 : UInt8), (6 : UInt8), (6 : UInt8), (6 : UInt8), (6 : UInt8), (6 : UInt8), (6 : UInt8), (6 : UInt8), (6 : UInt8), (6 : UInt8), (6 : UInt8), (6 : UInt8), (6 : UInt8), (6 : UInt8), (6 : UInt8), (6 : UInt8), (6 : UInt8), (6 : UInt8), (6 : UInt8), (6 : UInt8), (6 : UInt8), (6 : UInt8), (6 : UInt8), (6 : UInt8), (6 : UInt8), (6 : UInt8)] [(7 : UInt8), (7 : UInt8), (7 : UInt8), (7 : UInt8), (7 : UInt8), (7 : UInt8), (7 : UInt8), (7 : UInt8), (7 : UInt8), (7 : UInt8), (7 : UInt8), (7 : UInt8), (7 : UInt8), (7 : UInt8), (7 : UInt8), (7 : UInt8), (7 : UInt8), (7 : UInt8), (7 : UInt8), (7 : UInt8), (7 : UInt8), (7 : UInt8), (7 : UInt8), (7 : UInt8), (7 : UInt8), (7 : UInt8), (7 : UInt8), (7 : UInt8), (7 : UInt8), (7 : UInt8), (7 : UInt8), (7 : UInt8), (7 : UInt8), (7 : UInt8), (7 : UInt8), (7 : UInt8), (7 : UInt8), (7 : UInt8), (7 : UInt8), (7 : UInt8), (7 : UInt8), (7 : UInt8), (7 : UInt8), (7 : UInt8), (7 : UInt8), (7 : UInt8), (7 : UInt8), (7 : UInt8), (7 : UInt8), (7 : UInt8), (7 : UInt8), (7 : UInt8), (7 : UInt8), (7 : UInt8), (7 : UInt8), (7 : UInt8), (7 : UInt8), (7 : UInt8), (7 : UInt8), (7 : UInt8), (7 : UInt8), (7 : UInt8), (7 : UInt8), (7 : UInt8)]) (List.append [(8 : UInt8), (8 : UInt8), (8 : UInt8), (8 : UInt8), (8 : UInt8), (8 : UInt8), (8 : UInt8), (8 : UInt8), (8 : UInt8), (8 : UInt8), (8 : UInt8), (8 : UInt8), (8 : UInt8), (8 : UInt8), (8 : UInt8), (8 : UInt8), (8 : UInt8), (8 : UInt8), (8 : UInt8), (8 : UInt8), (8 : UInt8), (8 : UInt8), (8 : UInt8), (8 : UInt8), (8 : UInt8), (8 : UInt8), (8 : UInt8), (8 : UInt8), (8 : UInt8), (8 : UInt8), (8 : UInt8), (8 : UInt8), (8 : UInt8), (8 : UInt8), (8 : UInt8), (8 : UInt8), (8 : UInt8), (8 : UInt8), (8 : UInt8), (8 : UInt8), (8 : UInt8), (8 : UInt8), (8 : UInt8), (8 : UInt8), (8 : UInt8), (8 : UInt8), (8 : UInt8), (8 : UInt8), (8 : UInt8), (8 : UInt8), (8 : UInt8), (8 : UInt8), (8 : UInt8), (8 : UInt8), (8 : UInt8), (8 : UInt8), (8 : UInt8), (8 : UInt8), (8 : UInt8), (8 : UInt8), (8 : UInt8), (8 : UInt8), (8 : UInt8), (8 : UInt8)] [(8 : UInt8), (8 : UInt8), (8 : UInt8), (8 : UInt8), (8 : UInt8), (8 : UInt8), (8 : UInt8), (8 : UInt8), (8 : UInt8), (8 : UInt8), (8 : UInt8), (8 : UInt8), (8 : UInt8), (8 : UInt8), (8 : UInt8), (8 : UInt8), (8 : UInt8), (8 : UInt8), (8 : UInt8), (8 : UInt8), (8 : UInt8), (8 : UInt8), (8 : UInt8), (8 : UInt8), (8 : UInt8), (8 : UInt8), (8 : UInt8), (8 : UInt8), (8 : UInt8), (8 : UInt8), (8 : UInt8), (8 : UInt8), (8 : UInt8), (8 : UInt8), (8 : UInt8), (8 : UInt8), (8 : UInt8), (8 : UInt8), (8 : UInt8), (8 : UInt8), (8 : UInt8), (8 : UInt8), (8 : UInt8), (8 : UInt8), (8 : UInt8), (8 : UInt8), (8 : UInt8), (8 : UInt8), (8 : UInt8), (8 : UInt8), (8 : UInt8), (8 : UInt8), (8 : UInt8), (8 : UInt8), (8 : UInt8), (8 : UInt8), (8 : UInt8), (8 : UInt8), (8 : UInt8), (8 : UInt8), (8 : UInt8), (8 : UInt8), (8 : UInt8), (8 : UInt8)]))))) : Int) ∧ inI IntKind.i64 (↑(UInt8.toNat (List.getD (Array.toList (ByteArray.data (ByteArray.mk (List.toArray (List.append (List.append [(0 : UInt8), (1 : UInt8), (2 : UInt8), (2 : UInt8), (3 : UInt8), (3 : UInt8), (3 : UInt8), (3 : UInt8), (4 : UInt8), (4 : UInt8), (4 : UInt8), (4 : UInt8), (4 : UInt8), (4 : UInt8), (4 : UInt8), (4 : UInt8), (5 : UInt8), (5 : UInt8), (5 : UInt8), (5 : UInt8), (5 : UInt8), (5 : UInt8), (5 : UInt8), (5 : UInt8), (5 : UInt8), (5 : UInt8), (5 : UInt8), (5 : UInt8), (5 : UInt8), (5 : UInt8), (5 : UInt8), (5 : UInt8), (6 : UInt8), (6 : UInt8), (6 : UInt8), (6 : UInt8), (6 : UInt8), (6 : UInt8), (6 : UInt8), (6 : UInt8), (6 : UInt8), (6 : UInt8), (6 : UInt8), (6 : UInt8), (6 : UInt8), (6 : UInt8), (6 : UInt8), (6 : UInt8), (6 : UInt8), (6 : UInt8), (6 : UInt8), (6 : UInt8), (6 : UInt8), (6 : UInt8), (6 : UInt8), (6 : UInt8), (6 : UInt8), (6 : UInt8), (6 : UInt8), (6 : UInt8), (6 : UInt8), (6 : UInt8), (6 : UInt8), (6 : UInt8)] [(7 : UInt8), (7 : UInt8), (7 : UInt8), (7 : UInt8), (7 : UInt8), (7 : UInt8), (7 : UInt8), (7 : UInt8), (7 : UInt8), (7 : UInt8), (7 : UInt8), (7 : UInt8), (7 : UInt8), (7 : UInt8), (7 : UInt8), (7 : UInt8), (7 : UInt8), (7 : UInt8), (7 : UInt8), (7 : UInt8), (7 : UInt8), (7 : UInt8), (7 : UInt8), (7 : UInt8), (7 : UInt8), (7 : UInt8), (7 : UInt8), (7 : UInt8), (7 : UInt8), (7 : UInt8), (7 : UInt8), (7 : UInt8), (7 : UInt8), (7 : UInt8), (7 : UInt8), (7 : UInt8), (7 : UInt8), (7 : UInt8), (7 : UInt8), (7 : UInt8), (7 : UInt8), (7 : UInt8), (7 : UInt8), (7 : UInt8), (7 : UInt8), (7 : UInt8), (7 : UInt8), (7 : UInt8), (7 : UInt8), (7 : UInt8), (7 : UInt8), (7 : UInt8), (7 : UInt8), (7 : UInt8), (7 : UInt8), (7 : UInt8), (7 : UInt8), (7 : UInt8), (7 : UInt8), (7 : UInt8), (7 : UInt8), (7 : UInt8), (7 : UInt8), (7 : UInt8)]) (List.append [(8 : UInt8), (8 : UInt8), (8 : UInt8), (8 : UInt8), (8 : UInt8), (8 : UInt8), (8 : UInt8), (8 : UInt8), (8 : UInt8), (8 : UInt8), (8 : UInt8), (8 : UInt8), (8 : UInt8), (8 : UInt8), (8 : UInt8), (8 : UInt8), (8 : UInt8), (8 : UInt8), (8 : UInt8), (8 : UInt8), (8 : UInt8), (8 : UInt8), (8 : UInt8), (8 : UInt8), (8 : UInt8), (8 : UInt8), (8 : UInt8), (8 : UInt8), (8 : UInt8), (8 : UInt8), (8 : UInt8), (8 : UInt8), (8 : UInt8), (8 : UInt8), (8 : UInt8), (8 : UInt8), (8 : UInt8), (8 : UInt8), (8 : UInt8), (8 : UInt8), (8 : UInt8), (8 : UInt8), (8 : UInt8), (8 : UInt8), (8 : UInt8), (8 : UInt8), (8 : UInt8), (8 : UInt8), (8 : UInt8), (8 : UInt8), (8 : UInt8), (8 : UInt8), (8 : UInt8), (8 : UInt8), (8 : UInt8), (8 : UInt8), (8 : UInt8), (8 : UInt8), (8 : UInt8), (8 : UInt8), (8 : UInt8), (8 : UInt8), (8 : UInt8), (8 : UInt8)] [(8 : UInt8), (8 : UInt8), (8 : UInt8), (8 : UInt8), (8 : UInt8), (8 : UInt8), (8 : UInt8), (8 : UInt8), (8 : UInt8), (8 : UInt8), (8 : UInt8), (8 : UInt8), (8 : UInt8), (8 : UInt8), (8 : UInt8), (8 : UInt8), (8 : UInt8), (8 : UInt8), (8 : UInt8), (8 : UInt8), (8 : UInt8), (8 : UInt8), (8 : UInt8), (8 : UInt8), (8 : UInt8), (8 : UInt8), (8 : UInt8), (8 : UInt8), (8 : UInt8), (8 : UInt8), (8 : UInt8), (8 : UInt8), (8 : UInt8), (8 : UInt8), (8 : UInt8), (8 : UInt8), (8 : UInt8), (8 : UInt8), (8 : UInt8), (8 : UInt8), (8 : UInt8), (8 : UInt8), (8 : UInt8), (8 : UInt8), (8 : UInt8), (8 : UInt8), (8 : UInt8), (8 : UInt8), (8 : UInt8), (8 : UInt8), (8 : UInt8), (8 : UInt8), (8 : UInt8), (8 : UInt8), (8 : UInt8), (8 : UInt8), (8 : UInt8), (8 : UInt8), (8 : UInt8), (8 : UInt8), (8 : UInt8), (8 : UInt8), (8 : UInt8), (8 : UInt8)])))))) (Int.toNat (IntKind.wrap IntKind.u8 x)) (0 : UInt8))) : Int) ∧ inI IntKind.i64 (x_3 + (↑(UInt8.toNat (List.getD (Array.toList (ByteArray.data (ByteArray.mk (List.toArray (List.append (List.append [(0 : UInt8), (1 : UInt8), (2 : UInt8), (2 : UInt8), (3 : UInt8), (3 : UInt8), (3 : UInt8), (3 : UInt8), (4 : UInt8), (4 : UInt8), (4 : UInt8), (4 : UInt8), (4 : UInt8), (4 : UInt8), (4 : UInt8), (4 : UInt8), (5 : UInt8), (5 : UInt8), (5 : UInt8), (5 : UInt8), (5 : UInt8), (5 : UInt8), (5 : UInt8), (5 : UInt8), (5 : UInt8), (5 : UInt8), (5 : UInt8), (5 : UInt8), (5 : UInt8), (5 : UInt8), (5 : UInt8), (5 : UInt8), (6 : UInt8), (6 : UInt8), (6 : UInt8), (6 : UInt8), (6 : UInt8), (6 : UInt8), (6 : UInt8), (6 : UInt8), (6 : UInt8), (6 : UInt8), (6 : UInt8), (6 : UInt8), (6 : UInt8), (6 : UInt8), (6 : UInt8), (6 : UInt8), (6 : UInt8), (6 : UInt8), (6 : UInt8), (6 : UInt8), (6 : UInt8), (6 : UInt8), (6 : UInt8), (6 : UInt8), (6 : UInt8), (6 : UInt8), (6 : UInt8), (6 : UInt8), (6 : UInt8), (6 : UInt8), (6 : UInt8), (6 : UInt8)] [(7 : UInt8), (7 : UInt8), (7 : UInt8), (7 : UInt8), (7 : UInt8), (7 : UInt8), (7 : UInt8), (7 : UInt8), (7 : UInt8), (7 : UInt8), (7 : UInt8), (7 : UInt8), (7 : UInt8), (7 : UInt8), (7 : UInt8), (7 : UInt8), (7 : UInt8), (7 : UInt8), (7 : UInt8), (7 : UInt8), (7 : UInt8), (7 : UInt8), (7 : UInt8), (7 : UInt8), (7 : UInt8), (7 : UInt8), (7 : UInt8), (7 : UInt8), (7 : UInt8), (7 : UInt8), (7 : UInt8), (7 : UInt8), (7 : UInt8), (7 : UInt8), (7 : UInt8), (7 : UInt8), (7 : UInt8), (7 : UInt8), (7 : UInt8), (7 : UInt8), (7 : UInt8), (7 : UInt8), (7 : UInt8), (7 : UInt8), (7 : UInt8), (7 : UInt8), (7 : UInt8), (7 : UInt8), (7 : UInt8), (7 : UInt8), (7 : UInt8), (7 : UInt8), (7 : UInt8), (7 : UInt8), (7 : UInt8), (7 : UInt8), (7 : UInt8), (7 : UInt8), (7 : UInt8), (7 : UInt8), (7 : UInt8), (7 : UInt8), (7 : UInt8), (7 : UInt8)]) (List.append [(8 : UInt8), (8 : UInt8), (8 : UInt8), (8 : UInt8), (8 : UInt8), (8 : UInt8), (8 : UInt8), (8 : UInt8), (8 : UInt8), (8 : UInt8), (8 : UInt8), (8 : UInt8), (8 : UInt8), (8 : UInt8), (8 : UInt8), (8 : UInt8), (8 : UInt8), (8 : UInt8), (8 : UInt8), (8 : UInt8), (8 : UInt8), (8 : UInt8), (8 : UInt8), (8 : UInt8), (8 : UInt8), (8 : UInt8), (8 : UInt8), (8 : UInt8), (8 : UInt8), (8 : UInt8), (8 : UInt8), (8 : UInt8), (8 : UInt8), (8 : UInt8), (8 : UInt8), (8 : UInt8), (8 : UInt8), (8 : UInt8), (8 : UInt8), (8 : UInt8), (8 : UInt8), (8 : UInt8), (8 : UInt8), (8 : UInt8), (8 : UInt8), (8 : UInt8), (8 : UInt8), (8 : UInt8), (8 : UInt8), (8 : UInt8), (8 : UInt8), (8 : UInt8), (8 : UInt8), (8 : UInt8), (8 : UInt8), (8 : UInt8), (8 : UInt8), (8 : UInt8), (8 : UInt8), (8 : UInt8), (8 : UInt8), (8 : UInt8), (8 : UInt8), (8 : UInt8)] [(8 : UInt8), (8 : UInt8), (8 : UInt8), (8 : UInt8), (8 : UInt8), (8 : UInt8), (8 : UInt8), (8 : UInt8), (8 : UInt8), (8 : UInt8), (8 : UInt8), (8 : UInt8), (8 : UInt8), (8 : UInt8), (8 : UInt8), (8 : UInt8), (8 : UInt8), (8 : UInt8), (8 : UInt8), (8 : UInt8), (8 : UInt8), (8 : UInt8), (8 : UInt8), (8 : UInt8), (8 : UInt8), (8 : UInt8), (8 : UInt8), (8 : UInt8), (8 : UInt8), (8 : UInt8), (8 : UInt8), (8 : UInt8), (8 : UInt8), (8 : UInt8), (8 : UInt8), (8 : UInt8), (8 : UInt8), (8 : UInt8), (8 : UInt8), (8 : UInt8), (8 : UInt8), (8 : UInt8), (8 : UInt8), (8 : UInt8), (8 : UInt8), (8 : UInt8), (8 : UInt8), (8 : UInt8), (8 : UInt8), (8 : UInt8), (8 : UInt8), (8 : UInt8), (8 : UInt8), (8 : UInt8), (8 : UInt8), (8 : UInt8), (8 : UInt8), (8 : UInt8), (8 : UInt8), (8 : UInt8), (8 : UInt8), (8 : UInt8), (8 : UInt8), (8 : UInt8)])))))) (Int.toNat (IntKind.wrap IntKind.u8 x)) (0 : UInt8))) : Int)) ∧ Q (Value.int IntKind.i64 (x_3 + (↑(UInt8.toNat (List.getD (Array.toList (ByteArray.data (ByteArray.mk (List.toArray (List.append (List.append [(0 : UInt8), (1 : UInt8), (2 : UInt8), (2 : UInt8), (3 : UInt8), (3 : UInt8), (3 : UInt8), (3 : UInt8), (4 : UInt8), (4 : UInt8), (4 : UInt8), (4 : UInt8), (4 : UInt8), (4 : UInt8), (4 : UInt8), (4 : UInt8), (5 : UInt8), (5 : UInt8), (5 : UInt8), (5 : UInt8), (5 : UInt8), (5 : UInt8), (5 : UInt8), (5 : UInt8), (5 : UInt8), (5 : UInt8), (5 : UInt8), (5 : UInt8), (5 : UInt8), (5 : UInt8), (5 : UInt8), (5 : UInt8), (6 : UInt8), (6 : UInt8), (6 : UInt8), (6 : UInt8), (6 : UInt8), (6 : UInt8), (6 : UInt8), (6 : UInt8), (6 : UInt8), (6 : UInt8), (6 : UInt8), (6 : UInt8), (6 : UInt8), (6 : UInt8), (6 : UInt8), (6 : UInt8), (6 : UInt8), (6 : UInt8), (6 : UInt8), (6 : UInt8), (6 : UInt8), (6 : UInt8), (6 : UInt8), (6 : UInt8), (6 : UInt8), (6 : UInt8), (6 : UInt8), (6 : UInt8), (6 : UInt8), (6 : UInt8), (6 : UInt8), (6 : UInt8)] [(7 : UInt8), (7 : UInt8), (7 : UInt8), (7 : UInt8), (7 : UInt8), (7 : UInt8), (7 : UInt8), (7 : UInt8), (7 : UInt8), (7 : UInt8), (7 : UInt8), (7 : UInt8), (7 : UInt8), (7 : UInt8), (7 : UInt8), (7 : UInt8), (7 : UInt8), (7 : UInt8), (7 : UInt8), (7 : UInt8), (7 : UInt8), (7 : UInt8), (7 : UInt8), (7 : UInt8), (7 : UInt8), (7 : UInt8), (7 : UInt8), (7 : UInt8), (7 : UInt8), (7 : UInt8), (7 : UInt8), (7 : UInt8), (7 : UInt8), (7 : UInt8), (7 : UInt8), (7 : UInt8), (7 : UInt8), (7 : UInt8), (7 : UInt8), (7 : UInt8), (7 : UInt8), (7 : UInt8), (7 : UInt8), (7 : UInt8), (7 : UInt8), (7 : UInt8), (7 : UInt8), (7 : UInt8), (7 : UInt8), (7 : UInt8), (7 : UInt8), (7 : UInt8), (7 : UInt8), (7 : UInt8), (7 : UInt8), (7 : UInt8), (7 : UInt8), (7 : UInt8), (7 : UInt8), (7 : UInt8), (7 : UInt8), (7 : UInt8), (7 : UInt8), (7 : UInt8)]) (List.append [(8 : UInt8), (8 : UInt8), (8 : UInt8), (8 : UInt8), (8 : UInt8), (8 : UInt8), (8 : UInt8), (8 : UInt8), (8 : UInt8), (8 : UInt8), (8 : UInt8), (8 : UInt8), (8 : UInt8), (8 : UInt8), (8 : UInt8), (8 : UInt8), (8 : UInt8), (8 : UInt8), (8 : UInt8), (8 : UInt8), (8 : UInt8), (8 : UInt8), (8 : UInt8), (8 : UInt8), (8 : UInt8), (8 : UInt8), (8 : UInt8), (8 : UInt8), (8 : UInt8), (8 : UInt8), (8 : UInt8), (8 : UInt8), (8 : UInt8), (8 : UInt8), (8 : UInt8), (8 : UInt8), (8 : UInt8), (8 : UInt8), (8 : UInt8), (8 : UInt8), (8 : UInt8), (8 : UInt8), (8 : UInt8), (8 : UInt8), (8 : UInt8), (8 : UInt8), (8 : UInt8), (8 : UInt8), (8 : UInt8), (8 : UInt8), (8 : UInt8), (8 : UInt8), (8 : UInt8), (8 : UInt8), (8 : UInt8), (8 : UInt8), (8 : UInt8), (8 : UInt8), (8 : UInt8), (8 : UInt8), (8 : UInt8), (8 : UInt8), (8 : UInt8), (8 : UInt8)] [(8 : UInt8), (8 : UInt8), (8 : UInt8), (8 : UInt8), (8 : UInt8), (8 : UInt8), (8 : UInt8), (8 : UInt8), (8 : UInt8), (8 : UInt8), (8 : UInt8), (8 : UInt8), (8 : UInt8), (8 : UInt8), (8 : UInt8), (8 : UInt8), (8 : UInt8), (8 : UInt8), (8 : UInt8), (8 : UInt8), (8 : UInt8), (8 : UInt8), (8 : UInt8), (8 : UInt8), (8 : UInt8), (8 : UInt8), (8 : UInt8), (8 : UInt8), (8 : UInt8), (8 : UInt8), (8 : UInt8), (8 : UInt8), (8 : UInt8), (8 : UInt8), (8 : UInt8), (8 : UInt8), (8 : UInt8), (8 : UInt8), (8 : UInt8), (8 : UInt8), (8 : UInt8), (8 : UInt8), (8 : UInt8), (8 : UInt8), (8 : UInt8), (8 : UInt8), (8 : UInt8), (8 : UInt8), (8 : UInt8), (8 : UInt8), (8 : UInt8), (8 : UInt8), (8 : UInt8), (8 : UInt8), (8 : UInt8), (8 : UInt8), (8 : UInt8), (8 : UInt8), (8 : UInt8), (8 : UInt8), (8 : UInt8), (8 : UInt8), (8 : UInt8), (8 : UInt8)])))))) (Int.toNat (IntKind.wrap IntKind.u8 x)) (0 : UInt8))) : Int))) V
def f154_ac : AC := (.seq (.reg ⟨.done, false, [], [], none⟩) (.seq (.seq (.reg ⟨.done, false, [], [], none⟩) (.cond (some ⟨[5, 6], [(0, .int .u64), (2, .int .i64)], []⟩) (.seq (.reg ⟨.done, false, [], [], none⟩) (.reg ⟨.done, false, [], [], none⟩)) .leaf)) (.seq (.seq (.reg ⟨.done, false, [], [], none⟩) (.cond (some ⟨[9, 10, 11, 12], [(0, .int .u64), (2, .int .i64)], []⟩) (.seq (.reg ⟨.done, false, [], [], none⟩) (.reg ⟨.done, false, [], [], none⟩)) .leaf)) (.seq (.seq (.reg ⟨.done, false, [], [], none⟩) (.cond (some ⟨[15, 16, 17, 18], [(0, .int .u64), (2, .int .i64)], []⟩) (.seq (.reg ⟨.done, false, [], [], none⟩) (.reg ⟨.done, false, [], [], none⟩)) .leaf)) (.seq (.reg ⟨.done, false, [], [], none⟩) .leaf)))))
theorem f154_x {a0 : Int} {V : View} {Q : Value → View → Prop} (h : f154_n a0 V Q) : CallV Tryz.prog 154 ⟨[(.int .u64 a0)]⟩ V Q :=
  XF_sound (wr := false) Tryz.checked.mixed (enters_of (fn := Tryz.f154) (by kernel_rfl) (by kernel_rfl) (by kernel_rfl)) (fn := Tryz.f154) (by kernel_rfl) (ac := f154_ac)
    (Eq.mp (show f154_n a0 V Q = XF Tryz.prog false Tryz.f154 (f154_ac) [(.int .u64 a0)] V Q from by kernel_rfl) h)
end Go.Proofs.YtgkmcnafkhdlnaaGreat
/- Contracts of the reference's numbers and texts that are laid behind bytes. -/
namespace Go.Proofs.YtgkmcnafkhdlnaaGreat
open Go
/-- Two rows of one's own apart from one another. -/
theorem Buf.swap {V : View} {x y : Sl} {e e' : TypeId} {sz sz' : Nat} {cs ds : List Value} (h : Buf (V.minus y) x e sz cs) (k : Buf V y e' sz' ds) : Buf (V.minus x) y e' sz' ds := by
  refine ⟨k.len, k.le, k.lim, ?_⟩
  rcases k.own with k1 | ⟨r, all, k1, k2, k3⟩
  · exact .inl k1
  · refine .inr ⟨r, all, k1, ?_, k3⟩
    rcases h.own with ⟨h1, _⟩ | ⟨q, all', h1, h2, _⟩
    · unfold View.minus; rw [h1]; exact k2
    · unfold View.minus at h2 ⊢
      rw [k1] at h2
      rw [h1]
      simp only [hide_see] at h2 ⊢
      split at h2
      · cases h2
      · rename_i hne; rw [if_neg (fun e => hne e.symm)]; exact k2
theorem minus_minus_le (V : View) (x y : Sl) : ((V.minus x).minus y).Le ((V.minus y).minus x) := by
  refine ⟨by unfold View.minus; split <;> split <;> exact Nat.le_refl _, fun i o ho => ?_, by unfold View.minus; split <;> split <;> rfl⟩
  unfold View.minus at *
  cases hx : x.a <;> cases hy : y.a <;> simp only [hx, hy, hide_see] at ho ⊢
  · exact ho
  · exact ho
  · exact ho
  · split at ho
    · cases ho
    · rename_i h1
      split at ho
      · cases ho
      · rename_i h2
        rw [if_neg h2, if_neg h1]; exact ho
/-- Digits, the least first, without marks. -/
def dgL : Nat → Nat → List UInt8
  | 0, _ => []
  | f + 1, n => if n = 0 then [] else UInt8.ofNat (n % 128) :: dgL f (n / 128)
def markD (b : UInt8) : UInt8 := UInt8.ofNat (b.toNat + 128)
theorem dgL_mark : ∀ (f n : Nat), (dgL f n).map markD = loL f n
  | 0, _ => rfl
  | f + 1, n => by
    unfold dgL loL
    split
    · rfl
    · rw [List.map_cons, dgL_mark f]
      unfold markD
      rw [toNat_ofNat_lt (by omega)]
theorem dgL_lt : ∀ (f n : Nat), ∀ b ∈ dgL f n, b.toNat < 128
  | 0, _, b, h => by simp [dgL] at h
  | f + 1, n, b, h => by
    unfold dgL at h
    split at h
    · simp at h
    · rcases List.mem_cons.1 h with rfl | h
      · rw [toNat_ofNat_lt (by omega)]; omega
      · exact dgL_lt f _ b h
theorem dgL_len : ∀ (f n : Nat), (dgL f n).length ≤ f
  | 0, _ => by simp [dgL]
  | f + 1, n => by
    unfold dgL
    split
    · simp
    · have := dgL_len f (n / 128); simp; omega
theorem numL_dg (n : Nat) : numL n = (UInt8.ofNat (n % 128) :: (dgL 6 (n / 128)).map markD).reverse := by rw [dgL_mark, numL_rev]
/-- What stands at a place, counted from the end. -/
theorem numL_at {n : Nat} {i : Nat} (h : i < (UInt8.ofNat (n % 128) :: dgL 6 (n / 128)).length) :
    (numL n)[(UInt8.ofNat (n % 128) :: dgL 6 (n / 128)).length - 1 - i]? = some (if i = 0 then (UInt8.ofNat (n % 128) :: dgL 6 (n / 128))[i] else markD (UInt8.ofNat (n % 128) :: dgL 6 (n / 128))[i]) := by
  rw [numL_dg]
  simp only [List.length_cons] at h ⊢
  rw [List.getElem?_reverse (by simp; omega)]
  simp only [List.length_cons, List.length_map]
  rw [show (dgL 6 (n / 128)).length + 1 - 1 - ((dgL 6 (n / 128)).length + 1 - 1 - i) = i by omega]
  cases i with
  | zero => simp
  | succ i => simp [List.getElem?_eq_getElem (show i < (dgL 6 (n / 128)).length by omega)]
theorem clamp3_eq (n : Int) : (if (if (1099511627776 : Int) < n then (1099511627776 : Int) else n) > (0 : Int) then if (1099511627776 : Int) < n then (1099511627776 : Int) else n else (0 : Int)) = (clampN n : Int) := by
  unfold clampN
  split <;> split <;> omega
theorem row1 {V : View} {r : Nat} {v : Int} {c : UInt8} (hv : v = (c.toNat : Int)) (h : V.see r = some (.cells ⟨putL [.int .u8 0] 0 [.int .u8 v]⟩ 5 (0, 0))) : rowAt V (some ⟨r, 0, none⟩) (1 * 1) (u8s [c]) := by
  subst hv
  exact rowAt_new h rfl
theorem put3Number_ok {s : Sl} {l : List UInt8} {n : Int} {V : View} (h : Buf V s 5 1 (u8s l)) (hl : l.length ≤ 140737488355000) : CallV Tryz.prog 129 ⟨[.slice s.a s.n s.c, .int .i64 n]⟩ V fun r V' => ∃ x : Sl, r = .slice x.a x.n x.c ∧ Buf V' x 5 1 (u8s (l ++ numI n)) ∧ (V.minus s).Le (V'.minus x) := by
  refine f129_x ?_
  unfold f129_n
  rw [clamp3_eq]
  have hc := clampN_le n
  unfold numI
  generalize clampN n = k at *
  have e7 : ((2 : Int) ^ min (Int.toNat (7 : Int)) (IntKind.bits IntKind.i64)) = 128 := by simp [IntKind.bits]
  rw [e7]
  generalize hD : UInt8.ofNat (k % 128) :: dgL 6 (k / 128) = D
  have hDl : D.length ≤ 7 := by rw [← hD]; have := dgL_len 6 (k / 128); simp; omega
  have hDlt : ∀ b ∈ D, b.toNat < 128 := by
    intro b hb
    rw [← hD] at hb
    rcases List.mem_cons.1 hb with rfl | hb
    · rw [toNat_ofNat_lt (by omega)]; omega
    · exact dgL_lt _ _ b hb
  refine loop2 (k := .int .i64) (l := .sl) (fun (x : Int) (o : Sl) V1 => ∃ (q : Nat) (f : Nat) (pre : List UInt8), x = q ∧ q ≤ 1099511627776 ∧ D = pre ++ UInt8.ofNat (q % 128) :: dgL f (q / 128) ∧ pre.length + f = 6 ∧ q / 128 < 128 ^ f ∧ Buf V1 o 5 1 (u8s pre) ∧ V.Le (V1.minus o)) (fun (x : Int) _ _ => x.toNat)
    ⟨k, 6, [], rfl, hc, by rw [← hD]; rfl, rfl, by
      have : (128 : Nat) ^ 6 = 4398046511104 := by decide
      omega, Buf.nil _ _ _, View.Le.refl V⟩ ?_
  rintro (x : Int) (o : Sl) V1 ⟨q, f, pre, rfl, hq, hpre, hpf, hqf, hb, hle⟩
  have hbl := hb.len
  rw [u8s_len, Nat.mul_one] at hbl
  have e1 : Int.fdiv (q : Int) 128 = ((q / 128 : Nat) : Int) := by rw [Int.fdiv_eq_ediv_of_nonneg _ (by omega)]; omega
  rw [and127 (by omega), wrap_u8 (by omega) (by omega), e1]
  intro r hr
  have hfr := View.see_none_of_ge hr
  have hd0 : (UInt8.ofNat (q % 128)).toNat = q % 128 := toNat_ofNat_lt (by omega)
  refine apV_buf (cs := u8s pre) (src := u8s [UInt8.ofNat (q % 128)]) (m := 1) rfl (hb.put hfr) ⟨rfl, row1 (by rw [hd0]) (View.see_put_same _ _ _)⟩ rfl (u8s_one _) (by show (o.n + 1) * 1 ≤ _; omega) (by show o.n + 1 ≤ _; omega) ?_
  intro o2 V2 hb2 hn2 hle2
  rw [← u8s_append] at hb2
  have hle12 : V.Le (V2.minus o2) := (hle.trans (put_minus_le hfr)).trans hle2
  refine ⟨by decide, br_intro (fun h0 => ?_) (fun h0 => ?_)⟩
  · have h0 : q / 128 = 0 := by have := of_decide_eq_true h0; omega
    have hDe : D = pre ++ [UInt8.ofNat (q % 128)] := by
      rw [hpre, h0]
      cases f <;> simp [dgL]
    rw [← hDe] at hb2
    have hDn : o2.n = D.length := by have := hb2.len; rw [u8s_len] at this; omega
    have hDpos : 0 < D.length := by rw [← hD]; simp
    have hs2 : Buf (V2.minus o2) s 5 1 (u8s l) := h.mono hle12
    have ho2 := hs2.swap hb2
    have hM : (numL k).length = D.length := by rw [numL_dg, ← hD]; simp
    have hAt : ∀ i (hi : i < D.length), (numL k)[D.length - 1 - i]? = some (if i = 0 then D[i] else markD D[i]) := by
      intro i hi
      subst hD
      exact numL_at hi
    refine ⟨inI64 (by omega) (by omega), ?_⟩
    refine loop2 (k := .sl) (l := .int .i64) (fun (x : Sl) (j : Int) V3 => -1 ≤ j ∧ j ≤ D.length - 1 ∧ Buf V3 x 5 1 (u8s (l ++ (numL k).take ((D.length : Int) - 1 - j).toNat)) ∧ Buf (V3.minus x) o2 5 1 (u8s D) ∧ (V.minus s).Le (V3.minus x)) (fun _ (j : Int) _ => (j + 1).toNat)
      ⟨by omega, by omega, ?_, ho2, minus_mono (hle12.trans (View.minus_le _ _)) s⟩ ?_
    · rw [show ((D.length : Int) - 1 - ((o2.n : Int) - 1)).toNat = 0 by omega, List.take_zero, List.append_nil]
      exact hs2.mono (View.minus_le _ _)
    rintro (x : Sl) (j : Int) V3 ⟨j0, j1, hx, ho, hle3⟩
    have hxl := hx.len
    rw [u8s_len, Nat.mul_one, List.length_append, List.length_take] at hxl
    refine br_intro (fun hlt => ?_) (fun hge => ?_)
    · have hlt : 0 ≤ j := of_decide_eq_true hlt
      obtain ⟨i, rfl⟩ : ∃ i : Nat, j = i := ⟨j.toNat, by omega⟩
      have hi : i < D.length := by omega
      have hsl : SlR V3 o2 D := (ho.slR (W := V3.minus x) (u8s_rep _) (View.Le.refl _)).mono (View.minus_le _ _)
      obtain ⟨ad, hx', ha, hcell⟩ := hsl.u8 (x := (i : Int)) (by omega) (by omega)
      have e2 : D[((i : Int)).toNat] = D[i] := by congr 1
      rw [e2] at hcell
      have hdl := hDlt D[i] (List.getElem_mem hi)
      refine ⟨by omega, by omega, ad, ha, _, hcell, ?_⟩
      refine joinP_cut (fun p V' => p.1 = ((if i = 0 then D[i] else markD D[i]).toNat : Int) ∧ V' = V3) (br_intro (fun hp => ⟨?_, rfl⟩) (fun hp => ⟨?_, rfl⟩)) ?_
      · have hp : i ≠ 0 := by have := of_decide_eq_true hp; omega
        show bitsI .or .u8 _ 128 = _
        rw [if_neg hp, or128 hdl]
        unfold markD
        rw [toNat_ofNat_lt (by omega)]
      · have hp : i = 0 := by have := of_decide_eq_false hp; omega
        show ((D[i].toNat : Nat) : Int) = _
        rw [if_pos hp]
      rintro ⟨p, ⟨⟩⟩ V4 ⟨h1, hV⟩
      simp only at h1 hV
      subst hV
      dsimp only [unc]
      intro r4 hr4
      have hfr4 := View.see_none_of_ge hr4
      refine apV_buf (cs := u8s (l ++ (numL k).take ((D.length : Int) - 1 - i).toNat)) (src := u8s [if i = 0 then D[i] else markD D[i]]) (m := 1) rfl (hx.put hfr4) ⟨rfl, row1 h1 (View.see_put_same _ _ _)⟩ rfl (u8s_one _) (by show (x.n + 1) * 1 ≤ _; omega) (by show x.n + 1 ≤ _; omega) ?_
      intro x5 V5 hb5 hn5 hle5
      rw [← u8s_append, List.append_assoc] at hb5
      have hle45 := (put_minus_le (x := x) hfr4).trans hle5
      refine ⟨inI64 (by omega) (by omega), ⟨by omega, by omega, ?_, ho.mono hle45, hle3.trans hle45⟩, by omega⟩
      rw [show ((D.length : Int) - 1 - ((i : Int) - 1)).toNat = ((D.length : Int) - 1 - i).toNat + 1 by omega, List.take_add_one, show ((D.length : Int) - 1 - i).toNat = D.length - 1 - i by omega, hAt i hi]
      rw [show ((D.length : Int) - 1 - i).toNat = D.length - 1 - i by omega] at hb5
      exact hb5
    · have hge : j = -1 := by have := of_decide_eq_false hge; omega
      subst hge
      rw [List.take_of_length_le (by omega)] at hx
      exact ⟨x, rfl, hx, hle3⟩
  · have h0 : q / 128 ≠ 0 := by have := of_decide_eq_false h0; omega
    obtain ⟨f, rfl⟩ : ∃ g, f = g + 1 := by
      cases f with
      | zero => simp at hqf; omega
      | succ g => exact ⟨g, rfl⟩
    refine ⟨⟨q / 128, f, pre ++ [UInt8.ofNat (q % 128)], rfl, by omega, ?_, by simp; omega, Nat.div_lt_of_lt_mul (by rw [Nat.pow_succ] at hqf; omega), hb2, hle12⟩, by omega⟩
    rw [hpre, dgL, if_neg h0]; simp
theorem put3Text_ok {s t : Sl} {l m : List UInt8} {V : View} (h : Buf V s 5 1 (u8s l)) (k : SlR (V.minus s) t m) (hl : l.length + m.length ≤ 140737488354000) : CallV Tryz.prog 128 ⟨[.slice s.a s.n s.c, .slice t.a t.n t.c]⟩ V fun r V' => ∃ x : Sl, r = .slice x.a x.n x.c ∧ Buf V' x 5 1 (u8s (l ++ textL m)) ∧ (V.minus s).Le (V'.minus x) := by
  refine f128_x ?_
  unfold f128_n
  have kn := k.n
  refine (put3Number_ok (n := (t.n : Int)) h (by omega)).mono ?_
  rintro r V1 ⟨x, rfl, hx, hV1⟩
  have hbl := hx.len
  rw [u8s_len, Nat.mul_one, List.length_append] at hbl
  have hnl := numI_len (t.n : Int)
  refine ⟨x, rfl, apV_buf (cs := u8s (l ++ numI t.n)) (src := u8s m) (m := t.n) rfl hx ⟨rfl, (k.mono (hV1.trans (View.minus_le _ _))).row8⟩ (by rw [u8s_len]; omega) (u8s_one _) (by show (x.n + t.n) * 1 ≤ _; omega) (by show x.n + t.n ≤ _; omega) ?_⟩
  intro y V2 hb _ hle
  refine ⟨y, rfl, ?_, hV1.trans hle⟩
  rw [← u8s_append, List.append_assoc] at hb
  unfold textL
  rw [← kn]
  exact hb
theorem mayC_fits {g : Cfg} (h : fitsC g 0 = true) : mayC g = true := by
  unfold fitsC at h
  simp only [Bool.and_eq_true] at h
  exact h.1.1
/-- There are two blocks more than spare ones, and one. -/
theorem fits_room {g : Cfg} (h : fitsC g 0 = true) (hp : g.pg ≤ 8) : g.sp + 3 ≤ g.bl := by
  have hm := mayC_fits h
  obtain ⟨a1, a2, a3, a4, a5, a6, a7, a8, a9, a10⟩ := mayC_all hm
  unfold fitsC at h
  simp only [Bool.and_eq_true, decide_eq_true_eq] at h
  have h2 := h.2
  unfold needC roomC at h2
  rw [if_pos hm, if_pos ⟨hm, by omega, by omega⟩] at h2
  have h3 : 9 ≤ max (g.bl - 0 - g.sp - 1) 0 * g.pg := by omega
  refine Classical.byContradiction fun hn => ?_
  have h4 : max (g.bl - 0 - g.sp - 1) 0 ≤ 1 := by omega
  have h5 : max (g.bl - 0 - g.sp - 1) 0 * g.pg ≤ 1 * g.pg := Int.mul_le_mul_of_nonneg_right h4 (by omega)
  omega
theorem floor_eq {g : Cfg} (h : mayC g = true) : floorC g 0 = g.sp + 1 := by
  have := mayC_all h
  unfold floorC
  rw [if_pos ⟨h, by omega⟩]; omega
/-- How many blocks are clean. -/
def cleanN (C : Chp) : Nat := (cleansU (C.bl.map Prod.snd) C.bl.length).length
theorem cleansU_cnt (l : List Blk) : ∀ k, k ≤ l.length → (cleansU l k).length = (l.take k).countP cleanB
  | 0, _ => by simp [cleansU]
  | k + 1, h => by
    rw [cleansU_succ, List.length_append, cleansU_cnt l k (by omega), List.take_add_one, List.getElem?_eq_getElem (by omega), List.countP_append]
    congr 1
    have hg : l.getD k default = l[k] := by rw [List.getD_eq_getElem?_getD, List.getElem?_eq_getElem (by omega)]; rfl
    rw [hg]
    cases hc : cleanB l[k] <;> simp [hc]
theorem cleanN_eq (C : Chp) : cleanN C = (C.bl.map Prod.snd).countP cleanB := by
  unfold cleanN
  have := cleansU_cnt (C.bl.map Prod.snd) C.bl.length (by rw [List.length_map]; exact Nat.le_refl _)
  rw [this, List.take_of_length_le (by rw [List.length_map]; exact Nat.le_refl _)]
theorem countP_set {α : Type} (p : α → Bool) : ∀ (l : List α) (i : Nat) (h : i < l.length) (x : α), (l.set i x).countP p + (if p l[i] then 1 else 0) = l.countP p + if p x then 1 else 0
  | [], _, h, _ => absurd h (by simp)
  | a :: l, 0, _, x => by simp only [List.set_cons_zero, List.countP_cons, List.getElem_cons_zero]; omega
  | a :: l, i + 1, h, x => by
    have := countP_set p l i (by simpa using h) x
    simp only [List.set_cons_succ, List.countP_cons, List.getElem_cons_succ]
    omega
/-- A page more: one clean block less, at most. -/
theorem cleanN_prog {C : Chp} {i : Nat} {b : List UInt8} (hi : i < C.bl.length) (h0 : 0 ≤ C.bl[i].2.nxt) : cleanN (progC C i b hi) = cleanN C - if cleanB C.bl[i].2 then 1 else 0 := by
  rw [cleanN_eq, cleanN_eq]
  unfold progC
  simp only [List.map_set]
  have hl : i < (C.bl.map Prod.snd).length := by rw [List.length_map]; exact hi
  have := countP_set cleanB (C.bl.map Prod.snd) i hl { C.bl[i].2 with nxt := C.bl[i].2.nxt + 1, pages := C.bl[i].2.pages.set C.bl[i].2.nxt.toNat b }
  have e : cleanB { C.bl[i].2 with nxt := C.bl[i].2.nxt + 1, pages := C.bl[i].2.pages.set C.bl[i].2.nxt.toNat b } = false := by
    unfold cleanB
    simp only [Bool.and_eq_false_iff]
    exact .inr (decide_eq_false (by omega))
  rw [e] at this
  rw [List.getElem_map] at this
  simp only [Bool.false_eq_true, if_false] at this
  omega
theorem rMayPlan_ok {V : View} (g : Cfg) : CallV Tryz.prog 63 ⟨[cfgV g]⟩ V fun r V' => r = .bool (mayC g) ∧ V' = V := by
  refine f63_x ?_
  unfold f63_n
  intro _
  simp only [bif_dec]
  refine ⟨congrArg Value.bool ?_, by trivial⟩
  unfold mayC
  exact decide_eq_decide.2 ⟨fun h => by omega, fun h => by omega⟩
theorem rNeed_ok {V : View} (g : Cfg) : CallV Tryz.prog 104 ⟨[cfgV g]⟩ V fun r V' => r = .int .i64 (needC g) ∧ V' = V := by
  refine f104_x ?_
  unfold f104_n
  intro _
  refine (rMayPlan_ok g).mono ?_
  rintro r V1 ⟨rfl, rfl⟩
  refine ⟨_, rfl, br_intro (fun h => ⟨?_, rfl⟩) (fun h => ?_)⟩
  · unfold needC; rw [if_neg (by rw [not_t h]; decide)]
  · have h := not_f h
    have hm := mayC_all h
    refine ⟨inI64 (by omega) (by omega), inI64 (by omega) (by omega), ?_, rfl⟩
    unfold needC; rw [if_pos h]; congr 1; omega
theorem bif_or (p q : Prop) [Decidable p] [Decidable q] : (bif decide p then true else decide q) = decide (p ∨ q) := by
  by_cases h : p <;> simp [h]
theorem bif_nor (b : Bool) (q : Prop) [Decidable q] : (bif !b then true else decide q) = decide (b = false ∨ q) := by
  cases b <;> simp
theorem mulmax (a b : Int) (hb : 0 ≤ b) : (if a * b > 0 then a * b else 0) = max a 0 * b := by
  by_cases h : 0 ≤ a
  · have := Int.mul_nonneg h hb
    rw [Int.max_eq_left h]; split <;> omega
  · have h1 : a * b ≤ 0 * b := Int.mul_le_mul_of_nonneg_right (by omega) hb
    rw [Int.max_eq_right (by omega), Int.zero_mul] at *
    rw [if_neg (by omega)]
theorem rRoomG_ok {V : View} (g : Cfg) (bad : Int) : CallV Tryz.prog 103 ⟨[cfgV g, .int .i64 bad]⟩ V fun r V' => r = .int .i64 (roomC g bad) ∧ V' = V := by
  refine f103_x ?_
  unfold f103_n
  intro _
  refine (rMayPlan_ok g).mono ?_
  rintro r V1 ⟨rfl, rfl⟩
  refine ⟨_, rfl, ?_⟩
  simp only [bif_or, bif_nor]
  refine br_intro (fun h => ⟨?_, by trivial⟩) (fun h => ?_)
  · have h := of_decide_eq_true h
    unfold roomC; rw [if_neg]
    rintro ⟨a, b, c⟩
    rw [a] at h
    simp only [Bool.true_eq_false, false_or] at h
    omega
  · have h := of_decide_eq_false h
    have hm : mayC g = true := by
      cases e : mayC g with
      | true => rfl
      | false => exact absurd (.inl (.inl e)) h
    have hb : 0 ≤ bad ∧ bad ≤ g.bl := by
      rw [hm] at h
      simp only [Bool.true_eq_false, false_or] at h
      omega
    have ha := mayC_all hm
    have h4 : (-200) * 32 ≤ (g.bl - bad - g.sp - 1) * g.pg := by
      rcases Int.le_total 0 (g.bl - bad - g.sp - 1) with e | e
      · have := Int.mul_nonneg e (show 0 ≤ g.pg by omega); omega
      · have h5 : (-(g.bl - bad - g.sp - 1)) * g.pg ≤ 200 * 32 := Int.mul_le_mul (by omega) (by omega) (by omega) (by omega)
        rw [Int.neg_mul] at h5; omega
    have h5 : (g.bl - bad - g.sp - 1) * g.pg ≤ 64 * 32 := by
      rcases Int.le_total 0 (g.bl - bad - g.sp - 1) with e | e
      · exact Int.mul_le_mul (by omega) (by omega) (by omega) (by omega)
      · have := Int.mul_le_mul_of_nonneg_right e (show 0 ≤ g.pg by omega); omega
    refine ⟨inI64 (by omega) (by omega), inI64 (by omega) (by omega), inI64 (by omega) (by omega), inI64 (by omega) (by omega), ?_, by trivial⟩
    rw [mulmax _ _ (by omega)]
    unfold roomC; rw [if_pos ⟨hm, hb⟩]
theorem rFits_ok {V : View} (g : Cfg) (bad : Int) : CallV Tryz.prog 64 ⟨[cfgV g, .int .i64 bad]⟩ V fun r V' => r = .bool (fitsC g bad) ∧ V' = V := by
  refine f64_x ?_
  unfold f64_n
  intro _
  have hfit : fitsC g bad = ((bif bif mayC g then decide (0 ≤ bad) else false then decide (bad ≤ g.bl) else false) && decide (needC g ≤ roomC g bad)) := by
    unfold fitsC; congr 1
    cases mayC g <;> simp
  refine joinP_cut (fun z V' => z.1 = fitsC g bad ∧ V' = V) ⟨trivial, V, View.Le.refl _, ?_⟩ (fun z V' h => ?_)
  · refine (rMayPlan_ok g).mono ?_
    rintro r V1 ⟨rfl, rfl⟩
    refine ⟨_, rfl, View.Le.refl _, V1, View.Le.refl _, View.Le.refl _, br_intro (fun h1 => ?_) (fun h1 => ⟨?_, rfl⟩)⟩
    · refine (rRoomG_ok g bad).mono ?_
      rintro r V1 ⟨rfl, rfl⟩
      refine ⟨_, rfl, View.Le.refl _, (rNeed_ok g).mono ?_⟩
      rintro r V1 ⟨rfl, rfl⟩
      refine ⟨_, rfl, ?_, rfl⟩
      rw [hfit]; show decide (needC g ≤ roomC g bad) = _
      rw [h1]; rfl
    · rw [hfit, h1]; rfl
  · rcases z with ⟨z, ⟨⟩⟩
    obtain ⟨h, rfl⟩ := h
    simp only at h
    dsimp only [unc]
    exact ⟨by rw [h], rfl⟩
theorem rPrice_ok {V : View} (g : Cfg) (hm : mayC g = true) : ∃ n : Int, 1 ≤ n ∧ CallV Tryz.prog 106 ⟨[cfgV g, .int .i64 1, .int .i64 0]⟩ V fun r V' => r = .agg ⟨[.int .i64 n, .int .i64 n, .int .i64 (1 * 2 * (g.bl + 4) * (0 + 1))]⟩ ∧ V' = V := by
  have ha := mayC_all hm
  refine ⟨1 * 2 * (g.bl + 4) * (0 + 1) * g.pg, ?_, ?_⟩
  · have : 14 * 2 ≤ (1 * 2 * (g.bl + 4) * (0 + 1)) * g.pg := Int.mul_le_mul (by omega) (by omega) (by omega) (by omega)
    omega
  refine f106_x ?_
  unfold f106_n
  intro _ _
  refine (rMayPlan_ok g).mono ?_
  rintro r V1 ⟨rfl, rfl⟩
  have h1 : (1 * 2 * (g.bl + 4) * (0 + 1)) * g.pg ≤ 200 * 32 := Int.mul_le_mul (by omega) (by omega) (by omega) (by omega)
  have h0 : 0 ≤ (1 * 2 * (g.bl + 4) * (0 + 1)) * g.pg := Int.mul_nonneg (by omega) (by omega)
  refine ⟨_, rfl, br_intro (fun h => ?_) (fun h => ⟨inI64 (by omega) (by omega), inI64 (by omega) (by omega), inI64 (by omega) (by omega), inI64 (by omega) (by omega), inI64 (by omega) (by omega), inI64 (by omega) (by omega), inI64 (by omega) (by omega), rfl, rfl⟩)⟩
  rw [hm] at h; simp at h
theorem bill_ok {V : View} {O : Nat → Prop} {c : Nat} {x : Sl} {C : Chp} (h : ChipR V O c x C) : CallV Tryz.prog 65 ⟨[.pointer (some ⟨c, 0, none⟩)]⟩ V fun r V' => r = .agg ⟨[.int .i64 C.reads, .int .i64 C.progs, .int .i64 C.erases]⟩ ∧ V' = V := by
  refine f65_x ?_
  unfold f65_n
  intro _
  refine br_intro (fun h0 => by cases h0) (fun _ => ⟨_, rfl, C.reads, C.progs, C.erases, ?_, rfl, rfl⟩)
  rw [addr0_add]
  intro j v hj
  rw [show (⟨c, 0 + 2, none⟩ : Addr) = (⟨c, 0, none⟩ : Addr).add 2 by simp [Addr.add], Addr.add_add]
  refine h.cell _ ?_
  match j, hj with
  | 0, hj => exact hj
  | 1, hj => exact hj
  | 2, hj => exact hj
  | j + 3, hj => simp at hj
theorem seeN_le {V V' : View} (h : V.Le V') {i : Nat} (hn : V'.see i = none) : V.see i = none := by
  cases hs : V.see i with
  | none => rfl
  | some o => rw [h.see _ _ hs] at hn; cases hn
theorem Fresh8.put {U W : View} {x : Sl} {l : List UInt8} {r : Nat} {o : Obj} (h : Fresh8 U W x l) (hr : W.size ≤ r) : Fresh8 (U.put r o) (W.put r o) x l := by
  have hfr : W.see r = none := View.see_none_of_ge hr
  have hxr : ∀ a, x.a = some a → a.block ≠ r := by
    rintro a ha rfl
    rcases h.buf.own with ⟨hn, _⟩ | ⟨b, all, h1, h2, _⟩
    · rw [hn] at ha; cases ha
    · rw [h1] at ha; cases ha; rw [h2] at hfr; cases hfr
  refine ⟨h.buf.put hfr, ⟨?_, fun i ob hi => ?_, ?_⟩⟩
  · have := h.le.size
    rw [minus_size] at this ⊢
    show max U.size _ ≤ max W.size _
    omega
  · by_cases e : i = r
    · subst e
      rw [minus_see hxr, View.see_put_same]
      rw [View.see_put_same] at hi; exact hi
    · rw [View.see_put_ne _ _ e] at hi
      have := h.le.see _ _ hi
      have hne := minus_ne this
      rw [minus_see hne] at this ⊢
      rw [View.see_put_ne _ _ e]; exact this
  · have := h.le.out
    rw [minus_out] at this ⊢; exact this
theorem putN {U W : View} {x : Sl} {l : List UInt8} {n : Int} (h : Fresh8 U W x l) (hl : l.length ≤ 1000000) : CallV Tryz.prog 129 ⟨[.slice x.a x.n x.c, .int .i64 n]⟩ W fun r V' => ∃ y : Sl, r = .slice y.a y.n y.c ∧ Fresh8 U V' y (l ++ numI n) := by
  refine (put3Number_ok h.buf (by omega)).mono ?_
  rintro r V1 ⟨y, rfl, hb, hle⟩
  exact ⟨y, rfl, hb, h.le.trans hle⟩
theorem putT8 {U W : View} {x t : Sl} {l m : List UInt8} (h : Fresh8 U W x l) (ht : SlR U t m) (hl : l.length ≤ 1000000) (hm : m.length ≤ 1000000) : CallV Tryz.prog 128 ⟨[.slice x.a x.n x.c, .slice t.a t.n t.c]⟩ W fun r V' => ∃ y : Sl, r = .slice y.a y.n y.c ∧ Fresh8 U V' y (l ++ textL m) := by
  refine (put3Text_ok h.buf (ht.mono h.le) (by omega)).mono ?_
  rintro r V1 ⟨y, rfl, hb, hle⟩
  exact ⟨y, rfl, hb, h.le.trans hle⟩
theorem rSheetBytes_ok {V : View} {s : Sl} {d : List UInt8} {p q : Int} (h : SlR V s d) (hd : d.length ≤ 2000) : CallV Tryz.prog 105 ⟨[.agg ⟨[.int .i64 p, .int .i64 q, .slice s.a s.n s.c]⟩]⟩ V fun r V' => ∃ y : Sl, r = .slice y.a y.n y.c ∧ Fresh8 V V' y (laidS p q d) := by
  refine f105_x ?_
  unfold f105_n
  intro _
  have lp := numI_len p
  have lq := numI_len q
  have lt := textL_len d
  have l1 : ([] ++ numI p : List UInt8).length ≤ 7 := by simpa using lp
  have l2 : (([] ++ numI p) ++ numI q : List UInt8).length ≤ 14 := by rw [List.length_append]; omega
  have l3 : ((([] ++ numI p) ++ numI q) ++ textL d : List UInt8).length ≤ 3000 := by rw [List.length_append]; omega
  have fr : ∀ {W : View} {r : Nat} {o : Obj}, W.size ≤ r → W.Le (W.put r o) := fun h => View.put_le (View.see_none_of_ge h)
  have f0 : ∀ {W : View}, Fresh8 W W ⟨none, 0, 0⟩ [] := fun {W} => ⟨Buf.nil _ _ _, View.Le.refl _⟩
  have low : ∀ {U W : View} {x : Sl} {l : List UInt8}, V.Le U → Fresh8 U W x l → Fresh8 V W x l := fun hU h => ⟨h.buf, hU.trans h.le⟩
  refine joinP_cut (fun z V' => Fresh8 V V' z.1 (laidS p q d)) ⟨trivial, V, View.Le.refl _, ?_, ?_⟩ (fun z V' hz => ⟨z.1, rfl, hz⟩)
  · refine (putN f0 (by simp)).mono ?_
    rintro r V1 ⟨x1, rfl, h1⟩
    refine ⟨x1, rfl, h1.vle, ?_, fun r hr => ⟨h1.vle.trans (fr hr), ?_⟩⟩
    · refine (putN h1 (by omega)).mono ?_
      rintro r V2 ⟨x2, rfl, h2⟩
      refine ⟨x2, rfl, h2.vle, ?_, fun r hr => ⟨h2.vle.trans (fr hr), ?_⟩⟩
      · refine (putT8 h2 h (by omega) (by omega)).mono ?_
        rintro r V3 ⟨x3, rfl, h3⟩
        refine ⟨x3, rfl, h3.vle, fun r hr => ⟨h3.vle.trans (fr hr), ?_⟩⟩
        exact app8 (low (View.put_le (seeN_le h3.vle (View.see_none_of_ge hr))) (h3.put hr)) (View.see_put_same _ _ _) (by omega) fun s V' hs _ => hs
      · have hp := View.put_le (o := .cells ⟨putL [.int .u8 0] 0 [.int .u8 90]⟩ 5 (0, 0)) (seeN_le h2.vle (View.see_none_of_ge hr))
        refine (putT8 (h2.put hr) (h.mono hp) (by omega) (by omega)).mono ?_
        rintro r' V3 ⟨x3, rfl, h3⟩
        refine ⟨x3, rfl, hp.trans h3.vle, ?_⟩
        exact app8 (low hp h3) (h3.vle.see _ _ (View.see_put_same _ _ _)) (by omega) fun s V' hs _ => hs
    · have hp := View.put_le (o := .cells ⟨putL [.int .u8 0] 0 [.int .u8 90]⟩ 5 (0, 0)) (seeN_le h1.vle (View.see_none_of_ge hr))
      refine (putN (h1.put hr) (by omega)).mono ?_
      rintro r' V2 ⟨x2, rfl, h2⟩
      refine ⟨x2, rfl, hp.trans h2.vle, ?_⟩
      refine (putT8 h2 (h.mono hp) (by omega) (by omega)).mono ?_
      rintro r' V3 ⟨x3, rfl, h3⟩
      refine ⟨x3, rfl, hp.trans h3.vle, ?_⟩
      exact app8 (low hp h3) (h3.vle.see _ _ (View.see_put_same _ _ _)) (by omega) fun s V' hs _ => hs
  · intro r hr
    have hp := fr (o := .cells ⟨putL [.int .u8 0] 0 [.int .u8 90]⟩ 5 (0, 0)) hr
    refine ⟨hp, (putN f0 (by simp)).mono ?_⟩
    rintro r' V1 ⟨x1, rfl, h1⟩
    refine ⟨x1, rfl, hp.trans h1.vle, (putN h1 (by omega)).mono ?_⟩
    rintro r' V2 ⟨x2, rfl, h2⟩
    refine ⟨x2, rfl, hp.trans h2.vle, (putT8 h2 (h.mono hp) (by omega) (by omega)).mono ?_⟩
    rintro r' V3 ⟨x3, rfl, h3⟩
    refine ⟨x3, rfl, hp.trans h3.vle, ?_⟩
    exact app8 (low hp h3) (h3.vle.see _ _ (View.see_put_same _ _ _)) (by omega) fun s V' hs _ => hs
theorem rMaySheet_ok {V : View} {s : Sl} {d : List UInt8} {p q : Int} (h : SlR V s d) : CallV Tryz.prog 66 ⟨[.agg ⟨[.int .i64 p, .int .i64 q, .slice s.a s.n s.c]⟩]⟩ V fun r V' => r = .bool (mayS p q d) ∧ V.Le V' := by
  refine f66_x ?_
  unfold f66_n
  intro _
  have hn := h.n
  refine joinP_cut (fun z V' => z.1 = mayS p q d ∧ V.Le V') (br_intro (fun h0 => ?_) (fun h0 => ⟨?_, View.Le.refl _⟩)) (fun z V' hz => ?_)
  · simp only [bif_dec] at h0
    have h0 := of_decide_eq_true h0
    refine (rSheetBytes_ok h (by omega)).mono ?_
    rintro r V1 ⟨y, rfl, hy⟩
    have hyn := hy.slR.n
    refine ⟨y, rfl, ?_, hy.vle⟩
    show decide ((y.n : Int) ≤ 2000) = mayS p q d
    unfold mayS
    by_cases e : (y.n : Int) ≤ 2000
    · rw [decide_eq_true e, decide_eq_true (by omega)]
    · rw [decide_eq_false e, decide_eq_false (by omega)]
  · simp only [bif_dec] at h0
    have h0 := of_decide_eq_false h0
    unfold mayS
    exact (decide_eq_false (by omega)).symm
  · rcases z with ⟨z, ⟨⟩⟩
    obtain ⟨hz, hV⟩ := hz
    try simp only at hz
    dsimp only [unc]
    exact ⟨by rw [hz], hV⟩
end Go.Proofs.YtgkmcnafkhdlnaaGreat
/- The places that are true, as a range over a function has them. -/
namespace Go.Proofs.YtgkmcnafkhdlnaaGreat
open Go Go.RowKit Go.Shelf
attribute [local go_sem] Oper.semAt_some
/-- Places below n. -/
abbrev Plc (n : Nat) := { i : Nat // i < n }
/-- The true places below k. -/
def trueP (l : List Bool) (k : Nat) : List (Plc l.length) := (List.range k).filterMap fun i => if h : i < l.length then if l[i] then some ⟨i, h⟩ else none else none
theorem trueP_succ (l : List Bool) {k : Nat} (hk : k < l.length) : trueP l (k + 1) = trueP l k ++ if l[k] then [⟨k, hk⟩] else [] := by
  unfold trueP
  rw [List.range_succ, List.filterMap_append]
  congr 1
  by_cases h : l[k] = true <;> simp [hk, h]
theorem trueP_len (l : List Bool) (k : Nat) : (trueP l k).length ≤ k := by
  unfold trueP
  exact Nat.le_trans (List.length_filterMap_le _ _) (by simp)
set_option maxRecDepth 100000 in
set_option maxHeartbeats 2000000 in
theorem where1_in (n l b bx cap : Nat) (bs : List Bool) (hlen : bs.length ≤ 1000000) (J Jx : List (Plc bs.length) → World → Prop)
    (hY : ∀ pre (x : Plc bs.length) W, J pre W → pre.length < bs.length → YieldAt Fence.wide (n - 1) Tryz.prog l #[.int .i64 (x.1 : Int)] W fun e W' =>
      (e = .returned (.bool true) ∧ J (pre ++ [x]) W' ∧ W'.heap[b]? = W.heap[b]?) ∨ (e = .returned (.bool false) ∧ Jx (pre ++ [x]) W'))
    (W : World) (hbx : W.cell? ⟨bx, 0, none⟩ = some (.slice (some ⟨b, 0, none⟩) bs.length cap)) (hc : ∀ j (h : j < bs.length), W.cell? ⟨b, j, none⟩ = some (.bool bs[j])) (h0 : J [] W) :
    CallsIn Fence.wide n Tryz.prog 198 #[.func (.yield l) #[] #[], .pointer (some ⟨bx, 0, none⟩)] W fun e W' => (∃ v, e = .returned v) ∧ (J (trueP bs bs.length) W' ∨ ∃ pre, Jx pre W') := by
  refine callsIn_of_wp Tryz.func198 rfl trivial ?_ rfl
  simp only [Tryz.ntmps198, List.size_toArray, List.length_cons, List.length_nil, Nat.reduceAdd, Nat.reduceSub, Array.replicate_succ, Array.replicate_zero, List.push_toArray, List.append_toArray, List.nil_append, List.cons_append]
  gi_wp2
  gi_loopw [7] (fun i wr => ∃ k : Nat, k ≤ bs.length ∧ i = .int .i64 k ∧ J (trueP bs k) wr ∧ wr.heap[b]? = W.heap[b]?)
    (fun i _ => bs.length - (intOf i).toNat)
  case atStart => exact ⟨0, Nat.zero_le _, rfl, h0, rfl⟩
  case round =>
    obtain ⟨k, hk, rfl, hJs, hnx⟩ := hrel
    have hcx : ∀ h : k < bs.length, wr.cell? ⟨b, k, none⟩ = some (.bool bs[k]) := fun h => (World.cell?_of_block (a := ⟨b, k, none⟩) hnx).trans (hc k h)
    by_cases hlt : k < bs.length
    · have hcx' := hcx hlt
      have hst := trueP_succ bs hlt
      cases hb : bs[k] with
      | true =>
        rw [hb] at hcx' hst
        obtain ⟨fn, tmps, assign, body, hy, hR⟩ := hY _ ⟨k, hlt⟩ wr hJs (Nat.lt_of_le_of_lt (trueP_len _ _) hlt)
        dsimp only at hy
        gi_wp2
        refine ⟨fun e => by simp [Fence.wide] at e, hR.mono ?_⟩
        rintro e W3 (⟨rfl, hJ3, hK3⟩ | ⟨rfl, hJx3⟩)
        · gi_wp2
          go_roundw
          case rel => exact ⟨k + 1, by omega, by simp, by rw [hst]; exact hJ3, hK3.trans hnx⟩
          case measure => simp [intOf]; omega
        · gi_wp2
          refine bodyPost_ret (results_none rfl _ _ _) rfl ?_
          exact ⟨⟨_, rfl⟩, .inr ⟨_, hJx3⟩⟩
      | false =>
        rw [hb] at hcx' hst
        gi_wp2
        refine ⟨fun f e => (by cases e), ?_⟩
        gi_wp2
        go_roundw
        case rel => exact ⟨k + 1, by omega, by simp, by rw [hst]; simpa using hJs, hnx⟩
        case measure => simp [intOf]; omega
    · obtain rfl : k = bs.length := by omega
      gi_wp2
      go_end0
      exact ⟨⟨_, rfl⟩, .inl hJs⟩
end Go.Proofs.YtgkmcnafkhdlnaaGreat
