/- Contracts: rows of nodes, names of nodes. -/
import Derived.Test.YtpalkdmngckcoaaNodeOk
import Derived.Test.YtpalkdmngckcoaaGrow
namespace Go.Proofs.Ytpalkdmngckcoaa
open Go
theorem indexFuncN_ok {p : Nod → Bool} {s : Sl} {l : List Nod} {V : View} {g : FuncId} {xs ys : List Value} (h : SlR V s l)
    (hp : ∀ n ∈ l, ∀ a b, NodR V a b n → CallV Try.prog g ⟨xs ++ [nodV n a b] ++ ys⟩ V fun r V' => r = .bool (p n) ∧ V' = V) :
    CallV Try.prog 62 ⟨[.slice s.a s.n s.c, .func (.func g) ⟨xs⟩ ⟨ys⟩]⟩ V fun r V' => r = .int .i64 (idxI p l) ∧ V' = V := by
  refine f62_x ?_
  unfold f62_n
  have hn := h.n; have hlim := h.lim
  refine loop1 (k := .int .i64) (fun (x : Int) V' => V' = V ∧ 0 ≤ x ∧ x ≤ s.n ∧ ∀ j (hj : j < l.length), (j : Int) < x → p l[j] = false) (fun (x : Int) _ => s.n - x.toNat) ⟨rfl, by omega, by omega, fun j _ hj => by omega⟩ ?_
  rintro (x : Int) V' ⟨rfl, h0, h1, h2⟩
  refine br_intro (fun hlt => ?_) (fun hge => ?_)
  · have hlt : x < s.n := by simpa using hlt
    obtain ⟨ad, sq, en, hx, ha, hc, hN⟩ := h.nod h0 hlt
    refine ⟨h0, hlt, ad, ha, _, _, _, sq, en, hc, (hp _ (List.getElem_mem hx) _ _ hN).mono ?_⟩
    rintro r V1 ⟨rfl, rfl⟩
    refine ⟨_, rfl, br_intro (fun hb => ⟨?_, rfl⟩) (fun hb => ⟨inI64 (by omega) (by omega), ⟨rfl, by omega, by omega, fun j hj hjx => ?_⟩, by omega⟩)⟩
    · rw [idxI_first p l x.toNat hx (fun j hj => h2 j (by omega) (by omega)) hb]
      congr 1; omega
    · by_cases e : (j : Int) < x
      · exact h2 j hj e
      · have : j = x.toNat := by omega
        subst this; exact hb
  · have hge : ¬ x < s.n := by simpa using hge
    refine ⟨?_, rfl⟩
    rw [idxI_none p l fun y hy => ?_]
    obtain ⟨j, hj, rfl⟩ := List.getElem_of_mem hy
    exact h2 j hj (by omega)
theorem containsFuncN_ok {p : Nod → Bool} {s : Sl} {l : List Nod} {V : View} {g : FuncId} {xs ys : List Value} (h : SlR V s l)
    (hp : ∀ n ∈ l, ∀ a b, NodR V a b n → CallV Try.prog g ⟨xs ++ [nodV n a b] ++ ys⟩ V fun r V' => r = .bool (p n) ∧ V' = V) :
    CallV Try.prog 32 ⟨[.slice s.a s.n s.c, .func (.func g) ⟨xs⟩ ⟨ys⟩]⟩ V fun r V' => r = .bool (l.any p) ∧ V' = V := by
  refine f32_x ?_
  unfold f32_n
  refine (indexFuncN_ok h hp).mono ?_
  rintro r V' ⟨rfl, rfl⟩
  refine ⟨_, rfl, ?_, rfl⟩
  congr 1
  rcases idxI_range p l with ⟨h1, h2⟩ | ⟨h1, h2, h3⟩
  · rw [h1, h2]; rfl
  · rw [h3]; simpa using h1
theorem may1_ok {n : Nod} {s e : Sl} {V : View} (h : NodR V s e n) : CallV Try.prog 33 ⟨[nodV n s e]⟩ V fun r V' => r = .bool (!mayN n) ∧ V' = V := by
  refine f33_x ?_
  unfold f33_n
  refine fun _ => (mayN_ok h).mono ?_
  rintro r V' ⟨rfl, rfl⟩
  exact ⟨_, rfl, rfl, rfl⟩
theorem hangs_ok {n : Nod} {s e : Sl} {i named : Int} {met : Bool} {V : View} : CallV Try.prog 37 ⟨[nodV n s e, .int .i64 i, .int .i64 named, .bool met]⟩ V fun r V' => r = .bool (hangB n i named met) ∧ V' = V := by
  refine f37_x ?_
  unfold f37_n
  refine fun _ => br_intro (fun h2 => ⟨?_, rfl⟩) (fun h2 => br_intro (fun h1 => ⟨?_, rfl⟩) (fun h1 => ⟨?_, rfl⟩))
  · have h2 : n.kind = 2 := of_decide_eq_true h2
    unfold hangB; rw [if_pos h2]
    cases met <;> cases decide (i = 0) <;> rfl
  · have h2 : ¬ n.kind = 2 := of_decide_eq_false h2
    have h1 : n.kind = 1 := of_decide_eq_true h1
    unfold hangB; rw [if_neg h2, if_pos h1]
  · have h2 : ¬ n.kind = 2 := of_decide_eq_false h2
    have h1 : ¬ n.kind = 1 := of_decide_eq_false h1
    unfold hangB; rw [if_neg h2, if_neg h1]
/-! ### rows of numbers that are one's own -/
def intsV (l : List Int) : List Value := l.map fun n => .int .i64 n
def boolsV (l : List Bool) : List Value := l.map fun b => .bool b
theorem putL_one (cs : List Value) (i : Nat) (v : Value) : putL cs i [v] = cs.set i v := rfl
theorem intsV_set (l : List Int) (i : Nat) (n : Int) : (intsV l).set i (.int .i64 n) = intsV (l.set i n) := by unfold intsV; rw [List.map_set]
theorem boolsV_set (l : List Bool) (i : Nat) (n : Bool) : (boolsV l).set i (.bool n) = boolsV (l.set i n) := by unfold boolsV; rw [List.map_set]
theorem rows_int {W : View} : ∀ {l : List Int}, (∀ n ∈ l, inI .i64 n) → repL W (intsV l) l
  | [], _ => rfl
  | n :: l, h => ⟨[.int .i64 n], intsV l, rfl, ⟨rfl, h n (by simp)⟩, rows_int fun m hm => h m (by simp [hm])⟩
theorem rows_bool {W : View} : ∀ {l : List Bool}, repL W (boolsV l) l
  | [] => rfl
  | n :: l => ⟨[.bool n], boolsV l, rfl, rfl, rows_bool⟩
theorem repL_intsV {W : View} : ∀ {cs : List Value} {l : List Int}, repL W cs l → cs = intsV l
  | _, [], h => h
  | _, n :: l, ⟨vs, us, e, h1, h2⟩ => by rw [e, h1.1, repL_intsV h2]; rfl
/-- All the cells of a block, as a row of data. -/
theorem slR_block {α : Type} [Rep α] {V W : View} {r : Nat} {cs : List Value} {te : TypeId} {l : List α} (h : V.see r = some (.cells ⟨cs⟩ te (0, 0))) (hr : repL W cs l) (hW : W.Le V) (hl : l.length ≤ 140737488355328) : SlR V ⟨some ⟨r, 0, none⟩, l.length, l.length⟩ l := by
  have hlen := hr.len
  exact Buf.slR (e := te) (cs := cs) ⟨hlen, Nat.le_refl _, hl, .inr ⟨r, cs, rfl, h, hlen, by rw [List.take_of_length_le (by rw [hlen]; exact Nat.le_refl _)]⟩⟩ hr hW
theorem cnt_len (n : Nat) (es : List Ent) : (cnt n es).length = n := by simp [cnt]
theorem cnt_get (n : Nat) (es : List Ent) {j : Nat} (h : j < n) : (cnt n es).getD j 0 = ((es.countP (fun (x : Ent) => decide (x.node = (j : Int))) : Nat) : Int) := by
  rw [List.getD_eq_getElem?_getD]; simp [cnt, h]
theorem cnt_get' (n : Nat) (es : List Ent) {j : Nat} (h : j < n) : (cnt n es)[j]? = some ((es.countP (fun (x : Ent) => decide (x.node = (j : Int))) : Nat) : Int) := by
  simp [cnt, h]
theorem cnt_out {n : Nat} {es : List Ent} {x : Ent} (h : ¬ (0 ≤ x.node ∧ x.node < n)) : cnt n (es ++ [x]) = cnt n es := by
  unfold cnt
  apply List.map_congr_left
  intro j hj
  have hj := List.mem_range.1 hj
  rw [List.countP_append]
  have : decide (x.node = (j : Int)) = false := decide_eq_false (by omega)
  simp [this]
theorem cnt_in {n : Nat} {es : List Ent} {x : Ent} {k : Nat} (h : x.node = k) (hk : k < n) : cnt n (es ++ [x]) = (cnt n es).set k ((cnt n es).getD k 0 + 1) := by
  apply List.ext_getElem?
  intro j
  by_cases hj : j < n
  · rw [cnt_get' n _ hj, List.getElem?_set]
    by_cases e : k = j
    · subst e
      rw [if_pos rfl, if_pos (by rw [cnt_len]; exact hk), cnt_get n es hk, List.countP_append]
      simp [h]
    · rw [if_neg e, cnt_get' n es hj, List.countP_append]
      have : decide (x.node = (j : Int)) = false := decide_eq_false (by omega)
      simp [this]
  · rw [List.getElem?_eq_none (by rw [cnt_len]; omega), List.getElem?_eq_none (by rw [List.length_set, cnt_len]; omega)]
theorem allE_take {t : Tre} {i : Nat} (h : i < t.length) : allE (t.take (i + 1)) = allE (t.take i) ++ (t.getD i default).ents := by
  unfold allE
  rw [List.take_add_one, List.getElem?_eq_getElem h, List.flatMap_append, getD_at h]
  simp
theorem allE_len : ∀ {t : Tre} {m : Nat}, (∀ n ∈ t, n.ents.length ≤ m) → (allE t).length ≤ m * t.length
  | [], _, _ => by simp [allE]
  | n :: t, m, h => by
    have h1 := allE_len (t := t) (m := m) fun k hk => h k (by simp [hk])
    have h2 := h n (by simp)
    have e : allE (n :: t) = n.ents ++ allE t := by simp [allE]
    rw [e, List.length_append, List.length_cons, Nat.mul_add]
    omega
theorem names_ok {s : Sl} {t : Tre} {V : View} (h : SlR V s t) (h12 : t.length = 12) (he : ∀ n ∈ t, n.ents.length ≤ 10) : CallV Try.prog 35 ⟨[treV s]⟩ V fun r V' => ∃ x : Sl, r = .slice x.a x.n x.c ∧ SlR V' x (cnt 12 (allE t)) ∧ V.Le V' := by
  refine f35_x ?_
  unfold f35_n
  have hn : s.n = 12 := by rw [h.n, h12]
  rw [hn]
  refine fun _ => ⟨by decide, by decide, by decide, by decide, fun r hr => ?_⟩
  have hfr : V.see r = none := View.see_none_of_ge hr
  refine loop1 (k := .int .i64) (fun (x : Int) V' => ∃ i : Nat, x = i ∧ i ≤ 12 ∧ V'.see r = some (.cells ⟨intsV (cnt 12 (allE (t.take i)))⟩ 3 (0, 0)) ∧ V.Le (V'.hide r)) (fun (x : Int) _ => 12 - x.toNat) ⟨0, rfl, by omega, View.see_put_same _ _ _, put_le_hide hfr (View.Le.refl _)⟩ ?_
  rintro (x : Int) V1 ⟨i, rfl, hi, hs1, hV1⟩
  have hV1' : V.Le V1 := hV1.trans (View.hide_le _ _)
  refine br_intro (fun hlt => ?_) (fun hge => ?_)
  · have hlt : i < 12 := by have := of_decide_eq_true hlt; omega
    obtain ⟨ad, sq, en, ha, hc, hN⟩ := h.nodN (i := i) (by omega)
    have hmem : t.getD i default ∈ t := by rw [getD_at (by omega)]; exact List.getElem_mem _
    have hle := he _ hmem
    have htk : (allE (t.take i)).length ≤ 10 * 12 := Nat.le_trans (allE_len fun n hn => he n (List.mem_of_mem_take hn)) (Nat.mul_le_mul_left _ (by simp; omega))
    refine ⟨by omega, by omega, ad, ha, _, _, _, sq, en, cellsAt_mono hV1' hc, fun _ => ?_⟩
    generalize hnd : t.getD i default = nd at *
    have hen := hN.ents.n
    refine loop1 (k := .int .i64) (fun (x : Int) V' => ∃ k : Nat, x = k ∧ k ≤ nd.ents.length ∧ V'.see r = some (.cells ⟨intsV (cnt 12 (allE (t.take i) ++ nd.ents.take k))⟩ 3 (0, 0)) ∧ V.Le (V'.hide r)) (fun (x : Int) _ => nd.ents.length - x.toNat) ⟨0, rfl, by omega, by simpa using hs1, hV1⟩ ?_
    rintro (x : Int) V2 ⟨k, rfl, hk, hs2, hV2⟩
    have hV2' : V.Le V2 := hV2.trans (View.hide_le _ _)
    refine br_intro (fun hlt => ?_) (fun hge => ?_)
    · have hlt : k < nd.ents.length := by have := of_decide_eq_true hlt; omega
      obtain ⟨ad, ha, hc, hsz, hin⟩ := (hN.ents.mono hV2').entN hlt
      refine ⟨by omega, by omega, ad, ha, _, _, hc, fun _ => ?_⟩
      have etk : nd.ents.take (k + 1) = nd.ents.take k ++ [nd.ents.getD k default] := by rw [List.take_add_one, List.getElem?_eq_getElem hlt, getD_at hlt]; rfl
      generalize hx : nd.ents.getD k default = x at *
      refine joinP_cut (fun _ V3 => V3.see r = some (.cells ⟨intsV (cnt 12 (allE (t.take i) ++ nd.ents.take (k + 1)))⟩ 3 (0, 0)) ∧ V.Le (V3.hide r)) (br_intro (fun hb => ?_) (fun hb => ?_)) ?_
      · have hb : 0 ≤ x.node ∧ x.node < 12 := by
          cases h1 : decide (0 ≤ x.node) <;> rw [h1] at hb
          · cases hb
          · exact ⟨of_decide_eq_true h1, by have := of_decide_eq_true hb; omega⟩
        obtain ⟨q, hq⟩ : ∃ q : Nat, x.node = q := ⟨x.node.toNat, by omega⟩
        have hq12 : q < 12 := by omega
        have hqs : (cnt 12 (allE (t.take i) ++ nd.ents.take k)).getD q 0 ≤ 130 ∧ 0 ≤ (cnt 12 (allE (t.take i) ++ nd.ents.take k)).getD q 0 := by
          rw [cnt_get 12 _ hq12]
          have := List.countP_le_length (p := fun (x : Ent) => decide (x.node = (q : Int))) (l := allE (t.take i) ++ nd.ents.take k)
          simp only [List.length_append, List.length_take] at this
          omega
        have eset := cnt_in (es := allE (t.take i) ++ nd.ents.take k) hq hq12
        rw [List.append_assoc, ← etk] at eset
        have hgc : V2.cell? (Addr.add ⟨r, 0, none⟩ (x.node.toNat * 1)) = some (.int .i64 ((cnt 12 (allE (t.take i) ++ nd.ents.take k)).getD q 0)) := by
          rw [hq, addr0_add]
          refine cell_of_see hs2 ?_
          rw [cnt_get 12 _ hq12]
          simp [intsV, cnt_get' 12 _ hq12]
        refine ⟨hb.1, by omega, _, rfl, _, hgc, inI64 (by omega) (by omega), hb.1, by omega, _, rfl, ?_, ?_, ?_⟩
        · rw [hq, addr0_add]
          exact canSet_of hs2 (show 0 + q * 1 + 1 ≤ _ by simp [intsV, cnt_len]; omega)
        · rw [hq, addr0_add, sets_see hs2, putL_one, View.see_put_same]
          simp only [Int.toNat_natCast, Nat.zero_add, Nat.mul_one]
          rw [intsV_set, ← eset]
        · rw [hq, addr0_add, sets_see hs2]
          exact hV2.trans (hide_le_put_hide r _)
      · have hb : ¬ (0 ≤ x.node ∧ x.node < 12) := by
          rintro ⟨h1, h2⟩
          rw [decide_eq_true h1] at hb
          have := of_decide_eq_false hb
          omega
        refine ⟨?_, hV2⟩
        rw [etk, ← List.append_assoc, cnt_out hb]; exact hs2
      · rintro ⟨⟩ V3 ⟨hs3, hV3⟩
        exact ⟨inI64 (by omega) (by omega), ⟨k + 1, by omega, by omega, hs3, hV3⟩, by omega⟩
    · have hge : k = nd.ents.length := by have := of_decide_eq_false hge; omega
      subst hge
      rw [List.take_length] at hs2
      refine ⟨inI64 (by omega) (by omega), ⟨i + 1, by omega, by omega, ?_, hV2⟩, by omega⟩
      rw [allE_take (by omega), hnd]; exact hs2
  · have hge : i = 12 := by have := of_decide_eq_false hge; omega
    subst hge
    rw [List.take_of_length_le (by omega)] at hs1
    refine ⟨⟨some ⟨r, 0, none⟩, 12, 12⟩, rfl, ?_, hV1'⟩
    have := slR_block (W := V1) hs1 (rows_int fun n hn => ?_) (View.Le.refl _) (by rw [cnt_len]; omega)
    · rw [cnt_len] at this; exact this
    · unfold cnt at hn
      obtain ⟨j, _, rfl⟩ := List.mem_map.1 hn
      have h1 := List.countP_le_length (p := fun (x : Ent) => decide (x.node = (j : Int))) (l := allE t)
      have h2 := allE_len he
      exact inI64 (by omega) (by omega)
end Go.Proofs.Ytpalkdmngckcoaa
