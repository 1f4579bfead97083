/- The contract of dir.below. -/
import Derived.Test.YtpalkdmngckcoaaNamesOk
import Derived.Test.YtpalkdmngckcoaaBelowLaw
namespace Go.Proofs.Ytpalkdmngckcoaa
open Go
def isF : Value → Bool
  | .bool b => !b
  | _ => false
def unm : Option Obj → Nat
  | some (.cells c _ _) => c.toList.countP isF
  | _ => 0
theorem unm_bools (met : List Bool) (e : TypeId) (f : Nat × Nat) : unm (some (.cells ⟨boolsV met⟩ e f)) = met.countP (fun b => !b) := by
  show (boolsV met).countP isF = _
  unfold boolsV
  rw [List.countP_map]
  rfl
/-- Marks in a block, a stack in a row of one's own, beside what was there. -/
structure BI (V V' : View) (r : Nat) (x : Sl) (met : List Bool) (l : List Int) : Prop where
  marks : V'.see r = some (.cells ⟨boolsV met⟩ 4 (0, 0))
  stack : Buf (V'.hide r) x 3 1 (intsV l)
  le : V.Le ((V'.hide r).minus x)
theorem intsV_len (l : List Int) : (intsV l).length = l.length := by simp [intsV]
theorem boolsV_len (l : List Bool) : (boolsV l).length = l.length := by simp [boolsV]
theorem BI.n {V V' : View} {r : Nat} {x : Sl} {met : List Bool} {l : List Int} (h : BI V V' r x met l) : x.n = l.length := by
  have := h.stack.len; rw [intsV_len, Nat.mul_one] at this; exact this.symm
theorem BI.vle {V V' : View} {r : Nat} {x : Sl} {met : List Bool} {l : List Int} (h : BI V V' r x met l) : V.Le V' := h.le.trans ((View.minus_le _ _).trans (View.hide_le _ _))
theorem below_ok {s : Sl} {t : Tre} {a : Nat} {V : View} (h : SlR V s t) (h12 : t.length = 12) (ha : a < 12) (hnode : ∀ n ∈ t, ∀ e ∈ n.ents, 0 ≤ e.node ∧ e.node < 12) :
    CallV Try.prog 36 ⟨[treV s, .int .i64 a]⟩ V fun r V' => ∃ x : Sl, r = .slice x.a x.n x.c ∧ SlR V' x ((List.range 12).map (metB t a)) ∧ V.Le V' := by
  refine f36_x ?_
  unfold f36_n
  have hn : s.n = 12 := by rw [h.n, h12]
  rw [hn]
  refine fun _ => ⟨by decide, by decide, by decide, by decide, fun r hr r1 hr1 => ?_⟩
  have hfr : V.see r = none := View.see_none_of_ge hr
  have hfr1 := View.see_none_of_ge hr1
  have hne : r ≠ r1 := fun e => by rw [← e, View.see_put_same] at hfr1; cases hfr1
  generalize hU : (V.put r _) = U at *
  have hUr : U.see r = some (.cells ⟨boolsV (List.replicate 12 false)⟩ 4 (0, 0)) := by rw [← hU, View.see_put_same]; rfl
  have hVU : V.Le (U.hide r) := by rw [← hU]; exact put_le_hide hfr (View.Le.refl _)
  generalize hU1 : (U.put r1 _) = U1
  have hU1r : U1.see r = some (.cells ⟨boolsV (List.replicate 12 false)⟩ 4 (0, 0)) := by rw [← hU1, View.see_put_ne _ _ hne]; exact hUr
  have hU1s : U1.see r1 = some (.cells ⟨[.int .i64 a]⟩ 3 (0, 0)) := by rw [← hU1, View.see_put_same]; rfl
  have hVU1 : V.Le ((U1.hide r).hide r1) := by
    refine hVU.trans ?_
    rw [← hU1]
    refine ⟨Nat.le_max_left _ _, fun i o ho => ?_, rfl⟩
    rw [hide_see] at ho
    split at ho
    · cases ho
    · rename_i hi
      have hi1 : i ≠ r1 := fun e => by rw [e, hfr1] at ho; cases ho
      rw [hide_see, if_neg hi1, hide_see, if_neg hi, View.see_put_ne _ _ hi1]; exact ho
  refine ⟨by omega, by omega, _, rfl, ?_, ?_⟩
  · rw [addr0_add]; exact canSet_of hU1r (show 0 + ((a : Int)).toNat * 1 + 1 ≤ _ by rw [boolsV_len]; simp; omega)
  have hst : U1.sets ((⟨r, 0, none⟩ : Addr).add ((a : Int).toNat * 1)) [.bool true] = U1.put r (.cells ⟨boolsV ((List.replicate 12 false).set a true)⟩ 4 (0, 0)) := by
    rw [addr0_add, sets_see hU1r, putL_one]
    simp only [Int.toNat_natCast, Nat.zero_add, Nat.mul_one]
    rw [boolsV_set]
  rw [hst]
  refine loop1 (k := .sl) (fun (x : Sl) V' => ∃ met l, BI V V' r x met l ∧ DI t a (full t) met l) (fun (x : Sl) V' => 2 * unm (V'.see r) + x.n) ⟨_, [(a : Int)], ⟨View.see_put_same _ _ _, ⟨rfl, Nat.le_refl _, (by decide : 1 ≤ 140737488355328), .inr ⟨r1, [.int .i64 a], rfl, ?_, rfl, rfl⟩⟩, ?_⟩, DI.first ha⟩ ?_
  · rw [hide_see, if_neg (fun e => hne e.symm), View.see_put_ne _ _ (fun e => hne e.symm)]; exact hU1s
  · refine hVU1.trans ?_
    show ((U1.hide r).hide r1).Le (((U1.put r _).hide r).hide r1)
    exact hide_mono (hide_le_put_hide r _) r1
  rintro (x : Sl) V1 ⟨met, l, hB, hD⟩
  have hxn := hB.n
  have hxc := hB.stack.le
  have hroom := hD.room
  have hxl : x.n ≤ 140737488355328 := hB.stack.lim
  have hV1 := hB.vle
  refine br_intro (fun hlt => ?_) (fun hge => ?_)
  · have hlt : 0 < x.n := by have := of_decide_eq_true hlt; omega
    obtain ⟨l', y, rfl⟩ : ∃ l' y, l = l' ++ [y] := by
      rcases List.eq_nil_or_concat l with h1 | ⟨l', y, h1⟩
      · rw [h1] at hxn; simp at hxn; omega
      · exact ⟨l', y, by simpa using h1⟩
    obtain ⟨y1, y2, y3⟩ := hD.stack y (by simp)
    obtain ⟨c, rfl⟩ : ∃ c : Nat, y = c := ⟨y.toNat, by omega⟩
    rw [Int.toNat_natCast] at y3
    simp only [List.length_append, List.length_cons, List.length_nil] at hxn hroom
    have hrow := hB.stack.row
    cases hxa : x.a with
    | none => rw [hxa] at hrow; simp [rowAt, intsV] at hrow
    | some ad =>
      rw [hxa] at hrow
      have hcell : V1.cell? (ad.add (((x.n : Int) - 1).toNat * 1)) = some (.int .i64 c) := by
        have e1 : (((x.n : Int) - 1).toNat * 1) = l'.length := by omega
        rw [e1]
        have := hrow.2 l'.length (.int .i64 c) (by simp [intsV])
        exact (View.hide_le V1 r).cell this
      obtain ⟨ad2, sq, en, ha2, hc2, hN⟩ := h.nodN (i := c) (by omega)
      have hmem : t.getD c default ∈ t := by rw [getD_at (by omega)]; exact List.getElem_mem _
      have hnd := hnode _ hmem
      have hc24 := cellsAt_nth (cellsAt_mono hV1 hc2) 4 rfl
      refine ⟨inI64 (by omega) (by omega), by omega, by omega, ad, rfl, _, hcell, inI64 (by omega) (by omega), by omega, by omega, by omega, by omega, by omega, ad2, ha2, en, hc24, ?_⟩
      have e2 : (if x.c = 0 then some ad else Option.map (fun (x : Addr) => x.add 0) (some ad)) = some ad := by rw [map_add_zero]; simp
      rw [e2, Nat.sub_zero, Nat.sub_zero]
      have hen := hN.ents.n
      have helim := hN.ents.lim
      have hfl : full t c = en.n := hen.symm
      have hbuf' : Buf (V1.hide r) ⟨some ad, ((x.n : Int) - 1).toNat, x.c⟩ 3 1 (intsV l') := by
        have := hB.stack.cut (k := ((x.n : Int) - 1).toNat) (by omega)
        rw [hxa] at this
        have e3 : (intsV (l' ++ [(c : Int)])).take ((((x.n : Int) - 1).toNat) * 1) = intsV l' := by
          have e1 : (((x.n : Int) - 1).toNat * 1) = l'.length := by omega
          rw [e1]; unfold intsV; rw [List.map_append, List.take_left' (by simp)]
        rw [e3] at this
        exact this
      have hle' : V.Le ((V1.hide r).minus ⟨some ad, ((x.n : Int) - 1).toNat, x.c⟩) := by
        have := hB.le
        unfold View.minus at this ⊢
        rw [hxa] at this
        exact this
      have hmeas : 2 * unm (V1.see r) + x.n = 2 * met.countP (fun b => !b) + l'.length + 1 := by rw [hB.marks, unm_bools]; omega
      rw [hmeas]
      generalize hM : 2 * met.countP (fun b => !b) + l'.length + 1 = M
      refine loop2 (k := .sl) (l := .int .i64) (fun (x : Sl) (i : Int) V' => ∃ (k : Nat) (met : List Bool) (l : List Int), i = k ∧ k ≤ full t c ∧ BI V V' r x met l ∧ DI t a (upto t c k) met l ∧ met.getD c false = true ∧ 2 * met.countP (fun b => !b) + l.length + 1 ≤ M) (fun _ (i : Int) _ => full t c - i.toNat)
        ⟨0, met, l', rfl, Nat.zero_le _, ⟨hB.marks, hbuf', hle'⟩, hD.pop, y3, by omega⟩ ?_
      rintro (z : Sl) (i : Int) V2 ⟨k, met2, l2, rfl, hk, hB2, hD2, hc', hM2⟩
      have hV2 := hB2.vle
      have hzn := hB2.n
      have hroom2 := hD2.room
      refine br_intro (fun hlt => ?_) (fun hge => ?_)
      · have hlt : k < full t c := by have := of_decide_eq_true hlt; omega
        obtain ⟨ad3, ha3, hc3, _, _⟩ := (hN.ents.mono hV2).entN (i := k) hlt
        have hxm : (t.getD c default).ents.getD k default ∈ (t.getD c default).ents := by rw [getD_at hlt]; exact List.getElem_mem _
        have hq := hnd _ hxm
        obtain ⟨q, hqe⟩ : ∃ q : Nat, ((t.getD c default).ents.getD k default).node = q := ⟨((t.getD c default).ents.getD k default).node.toNat, by omega⟩
        have hq12 : q < 12 := by omega
        have hcm : V2.cell? (Addr.add ⟨r, 0, none⟩ (((t.getD c default).ents.getD k default).node.toNat * 1)) = some (.bool (met2.getD q false)) := by
          rw [hqe, addr0_add]
          refine cell_of_see hB2.marks ?_
          have hql : q < met2.length := by rw [hD2.len]; exact hq12
          rw [List.getD_eq_getElem?_getD, List.getElem?_eq_getElem hql]
          show (boolsV met2)[0 + ((q : Int)).toNat * 1]? = _
          unfold boolsV
          rw [Int.toNat_natCast, Nat.zero_add, Nat.mul_one, List.getElem?_map, List.getElem?_eq_getElem hql]
          rfl
        refine ⟨by omega, by omega, ad3, ha3, _, _, hc3, fun _ => ⟨hq.1, by omega, _, rfl, _, hcm, ?_⟩⟩
        refine joinP_cut (fun w V3 => ∃ met l, BI V V3 r w.1 met l ∧ DI t a (upto t c (k + 1)) met l ∧ met.getD c false = true ∧ 2 * met.countP (fun b => !b) + l.length + 1 ≤ M) (br_intro (fun hb => ?_) (fun hb => ?_)) ?_
        · have hb : met2.getD q false = false := not_t hb
          obtain ⟨hD3, hcp⟩ := hD2.new hlt hqe hq12 hc' hb
          have hup : (met2.set q true).getD c false = true := by rw [getD_set_bool _ _ _ (by rw [hD2.len]; exact hq12), hc']; simp
          have hset : V2.sets ((⟨r, 0, none⟩ : Addr).add (((t.getD c default).ents.getD k default).node.toNat * 1)) [.bool true] = V2.put r (.cells ⟨boolsV (met2.set q true)⟩ 4 (0, 0)) := by
            rw [hqe, addr0_add, sets_see hB2.marks, putL_one]
            simp only [Int.toNat_natCast, Nat.zero_add, Nat.mul_one]
            rw [boolsV_set]
          refine ⟨hq.1, by omega, _, rfl, ?_, ?_⟩
          · rw [hqe, addr0_add]; exact canSet_of hB2.marks (show 0 + ((q : Int)).toNat * 1 + 1 ≤ _ by rw [boolsV_len, hD2.len]; simp; omega)
          · rw [hset]
            intro r2 hr2
            have hfr2 := View.see_none_of_ge hr2
            have hne2 : r ≠ r2 := fun e => by rw [← e, View.see_put_same] at hfr2; cases hfr2
            have hbuf2 : Buf ((V2.put r (.cells ⟨boolsV (met2.set q true)⟩ 4 (0, 0))).hide r) z 3 1 (intsV l2) := hB2.stack.mono (hide_le_put_hide r _)
            have hle2 : V.Le (((V2.put r (.cells ⟨boolsV (met2.set q true)⟩ 4 (0, 0))).hide r).minus z) := hB2.le.trans (minus_mono (hide_le_put_hide r _) z)
            have hsee2 : (V2.put r (.cells ⟨boolsV (met2.set q true)⟩ 4 (0, 0))).see r = some (.cells ⟨boolsV (met2.set q true)⟩ 4 (0, 0)) := View.see_put_same _ _ _
            generalize (V2.put r (.cells ⟨boolsV (met2.set q true)⟩ 4 (0, 0))) = W at *
            have hW := View.put_le (o := .cells ⟨putL [.int .i64 0] 0 [.int .i64 ((t.getD c default).ents.getD k default).node]⟩ 3 (0, 0)) hfr2
            refine apV_beside (V0 := V) (p := r) (cs := intsV l2) (src := [.int .i64 q]) (m := 1) rfl (hW.see _ _ hsee2) (hbuf2.mono (hide_mono hW r)) (hle2.trans (minus_mono (hide_mono hW r) z)) ⟨rfl, rowAt_new (by rw [View.see_put_same, hqe]; rfl) rfl⟩ rfl rfl (by show (z.n + 1) * 8 ≤ _; omega) (by show z.n + 1 ≤ _; omega) ?_
            intro s3 V3 hsee3 hbuf3 hle3 _
            have e4 : intsV l2 ++ [.int .i64 (q : Int)] = intsV (l2 ++ [(q : Int)]) := by simp [intsV]
            rw [e4] at hbuf3
            exact ⟨_, _, ⟨hsee3, hbuf3, hle3⟩, hD3, hup, by simp; omega⟩
        · have hb : met2.getD q false = true := not_f hb
          exact ⟨met2, l2, ⟨hB2.marks, hB2.stack, hB2.le⟩, hD2.old hlt (by rw [hqe, Int.toNat_natCast]; exact hb), hc', hM2⟩
        · rintro ⟨w, ⟨⟩⟩ V3 ⟨met3, l3, hB3, hD3, hc3, hM3⟩
          exact ⟨inI64 (by omega) (by omega), ⟨k + 1, met3, l3, by omega, by omega, hB3, hD3, hc3, hM3⟩, by omega⟩
      · have hge : k = full t c := by have := of_decide_eq_false hge; omega
        subst hge
        refine ⟨⟨met2, l2, ⟨hB2.marks, hB2.stack, hB2.le⟩, hD2.close⟩, ?_⟩
        rw [hB2.marks, unm_bools]
        show 2 * _ + z.n < _
        omega
  · have hge : l = [] := List.eq_nil_of_length_eq_zero (by have := of_decide_eq_false hge; omega)
    subst hge
    refine ⟨⟨some ⟨r, 0, none⟩, 12, 12⟩, rfl, ?_, hV1⟩
    have := slR_block (W := V1) hB.marks rows_bool (View.Le.refl _) (by rw [hD.len]; omega)
    rw [hD.len, hD.end] at this
    exact this
end Go.Proofs.Ytpalkdmngckcoaa
