/- Texts joined: Tr2Law, Tr3Law, Tr4Law, Tr6Ok, Ref6Ok, Ref7Ok, Ref8Ok, Ref9Ok, Tr5Law, RefAOk, RefBOk, RefCOk, In, StIn. -/
import Derived.Test.YtdlgpolngnkiaaaGreatDoorPk4
import Derived.Test.YtdlgpolngnkiaaaGreatDoorPk3
/- What comes of a tree that may be may be: plain laws. -/
namespace Go.Proofs.YtdlgpolngnkiaaaGreatDoor
open Go
def cntE (l : List Ent) (x : Int) : Nat := l.countP fun e => decide (e.node = x)
theorem getD_set {t : Tre} {k j : Nat} {n : Nod} (hk : k < t.length) : (t.set k n).getD j default = if j = k then n else t.getD j default := by
  by_cases h : j = k
  · subst h; rw [if_pos rfl, getD_at (by simpa using hk), List.getElem_set_self]
  · rw [if_neg h, List.getD_eq_getElem?_getD, List.getElem?_set_ne (fun e => h e.symm), ← List.getD_eq_getElem?_getD]
theorem named_set {x : Int} : ∀ {t : Tre} {k : Nat} {n : Nod}, k < t.length → namedT (t.set k n) x + cntE (entsT t k) x = namedT t x + cntE n.ents x
  | [], _, _, h => absurd h (by simp)
  | m :: t, 0, n, _ => by
    show namedT (n :: t) x + cntE m.ents x = _
    unfold namedT cntE
    rw [allE_cons, allE_cons, List.countP_append, List.countP_append]; omega
  | m :: t, k + 1, n, h => by
    have ih := named_set (x := x) (t := t) (k := k) (n := n) (by simpa using h)
    show namedT (m :: t.set k n) x + cntE (entsT t k) x = _
    unfold namedT at ih ⊢
    rw [allE_cons, allE_cons, List.countP_append, List.countP_append]; omega
theorem allS_set : ∀ {t : Tre} {k : Nat} {n : Nod}, k < t.length → List.Sublist (n.seqs.filter fun s => decide (s ≠ 0)) ((t.getD k default).seqs.filter fun s => decide (s ≠ 0)) → List.Sublist ((allS (t.set k n)).filter fun s => decide (s ≠ 0)) ((allS t).filter fun s => decide (s ≠ 0))
  | [], _, _, h, _ => absurd h (by simp)
  | m :: t, 0, n, _, hs => by
    have e1 : allS ((m :: t).set 0 n) = n.seqs ++ allS t := by simp [allS]
    have e2 : allS (m :: t) = m.seqs ++ allS t := by simp [allS]
    rw [e1, e2, List.filter_append, List.filter_append]
    exact List.Sublist.append hs (List.Sublist.refl _)
  | m :: t, k + 1, n, h, hs => by
    have ih := allS_set (t := t) (k := k) (n := n) (by simpa using h) (by simpa using hs)
    have e1 : allS ((m :: t).set (k + 1) n) = m.seqs ++ allS (t.set k n) := by simp [allS]
    have e2 : allS (m :: t) = m.seqs ++ allS t := by simp [allS]
    rw [e1, e2, List.filter_append, List.filter_append]
    exact List.Sublist.append (List.Sublist.refl _) ih
theorem apart_set {t : Tre} {k : Nat} {n : Nod} (h : apartL (allS t) = true) (hk : k < t.length) (hs : List.Sublist (n.seqs.filter fun s => decide (s ≠ 0)) ((t.getD k default).seqs.filter fun s => decide (s ≠ 0))) : apartL (allS (t.set k n)) = true := by
  unfold apartL at h ⊢
  exact decide_eq_true ((of_decide_eq_true h).sublist (allS_set hk hs))
theorem mayT_of {t : Tre} (h : MayF t) (ha : apartL (allS t) = true) : mayT t = true := by
  unfold mayT
  simp only [Bool.and_eq_true, decide_eq_true_eq, List.all_eq_true, List.mem_range]
  refine ⟨⟨⟨⟨h.len, h.may⟩, h.top⟩, fun i hi => ?_⟩, ha⟩
  rw [cnt_get 12 (allE t) hi]
  unfold hangB
  rcases kind_of (h.at hi) with hk | hk | hk
  · rw [if_neg (by omega), if_neg (by omega)]
    have := h.none i hi hk
    unfold namedT at this
    rw [this]; rfl
  · rw [if_neg (by omega), if_pos hk]
    exact decide_eq_true (h.file i hi hk)
  · rw [if_pos hk]
    obtain ⟨h1, h2⟩ := h.dir i hi hk
    rw [metB_iff.2 h1, Bool.true_and, Bool.or_eq_true, decide_eq_true_eq, decide_eq_true_eq]
    rcases h2 with h2 | h2
    · left; omega
    · right; unfold namedT at h2; omega
theorem mayT_apart {t : Tre} (h : mayT t = true) : apartL (allS t) = true := (mayT_all h).2.2.2.2
theorem cnt_ins (l : List Ent) (x : Ent) (y : Int) : cntE (insE l x) y = cntE l y + if x.node = y then 1 else 0 := by
  unfold cntE
  rw [(ins_perm l x).countP_eq, List.countP_cons]
  simp only [decide_eq_true_eq]
theorem cnt_cut {l : List Ent} {x : Ent} (h : mayL l = true) (hx : x ∈ l) (y : Int) : cntE l y = cntE (cutE l x.name) y + if x.node = y then 1 else 0 := by
  rw [← cnt_ins, ins_cut h hx]
theorem reach_grow {t u : Tre} (h : ∀ p e, e ∈ entsT t p → ∃ e' ∈ entsT u p, e'.node = e.node) {a b : Nat} (hr : Reach t a b) : Reach u a b := by
  induction hr with
  | refl => exact .refl
  | @step i x _ hx ih =>
    obtain ⟨e', h1, h2⟩ := h i x hx
    rw [← h2]; exact .step ih h1
theorem reach_avoid {t u : Tre} {A : Nat → Prop} (h : ∀ p e, e ∈ entsT t p → ¬ A e.node.toNat → ∃ e' ∈ entsT u p, e'.node = e.node) {a b : Nat} (hr : Reach t a b) (hA : ∀ i, A i → ¬ Reach t i b) : Reach u a b := by
  induction hr with
  | refl => exact .refl
  | @step i x _ hx ih =>
    obtain ⟨e', h1, h2⟩ := h i x hx fun ha => hA _ ha .refl
    rw [← h2]; exact .step (ih fun j hj hr => hA j hj (.step hr hx)) h1
/-- Names are told once. -/
theorem ent_one {t : Tre} (h : MayF t) {d : Nat} {e e' : Ent} (he : e ∈ entsT t d) (he' : e' ∈ entsT t d) (hn : e.name = e'.name) : e = e' := by
  obtain ⟨i, hi, rfl⟩ := List.mem_iff_getElem.1 he
  obtain ⟨j, hj, rfl⟩ := List.mem_iff_getElem.1 he'
  have hp := List.pairwise_iff_getElem.1 (h.pair d)
  rcases Nat.lt_trichotomy i j with h9 | h9 | h9
  · exact absurd hn (hp i j hi hj h9)
  · subst h9; rfl
  · exact absurd hn.symm (hp j i hj hi h9)
theorem zero_of {t : Tre} (h : MayF t) {i : Nat} (hi : i < 12) (hk : kindT t i = 0) : t.getD i default = Nod.zero := by
  have hm := h.at hi
  unfold mayN at hm
  rw [if_pos hk] at hm
  simp only [Bool.and_eq_true, decide_eq_true_eq] at hm
  have hk : (t.getD i default).kind = 0 := hk
  generalize t.getD i default = n at *
  obtain ⟨k, l, z, sq, en⟩ := n
  simp only at hm hk
  have h1 : sq = [] := List.eq_nil_of_length_eq_zero hm.1.2
  have h2 : en = [] := List.eq_nil_of_length_eq_zero hm.2
  rw [hk, hm.1.1.1, hm.1.1.2, h1, h2]; rfl
theorem dir_mayN {n : Nod} {l : List Ent} (h : mayN n = true) (hk : n.kind = 2) (hl : mayL l = true) : mayN { n with ents := l } = true := by
  unfold mayN at h ⊢
  simp only
  rw [if_neg (by omega), if_neg (by omega), if_pos hk] at h ⊢
  simp only [Bool.and_eq_true, decide_eq_true_eq] at h ⊢
  exact ⟨h.1, hl⟩
theorem file_mayN {n : Nod} {k : Int} (h : mayN n = true) (hk : n.kind = 1) (h0 : 0 ≤ k) (h1 : k ≤ 120) : mayN { n with links := k } = true := by
  unfold mayN at h ⊢
  simp only
  rw [if_neg (by omega), if_pos hk] at h ⊢
  unfold fileB at h ⊢
  simp only [Bool.and_eq_true, decide_eq_true_eq] at h ⊢
  refine ⟨⟨⟨⟨?_, h.1.1.1.2⟩, h.1.1.2⟩, h.1.2⟩, h.2⟩
  unfold within
  rw [decide_eq_true h0, decide_eq_true h1]; rfl
theorem file_noents {t : Tre} (h : MayF t) {i : Nat} (_hi : i < 12) (hk : kindT t i ≠ 2) : entsT t i = [] := by
  cases he : entsT t i with
  | nil => rfl
  | cons e l => exact absurd (h.ent (i := i) (e := e) (by rw [he]; simp)).2.1 hk
theorem all_at {t : Tre} (h12 : t.length = 12) {P : Nod → Prop} (h : ∀ i, i < 12 → P (t.getD i default)) : ∀ n ∈ t, P n := fun n hn => by
  obtain ⟨i, hi, rfl⟩ := List.mem_iff_getElem.1 hn
  have := h i (by omega)
  rwa [getD_at hi] at this
theorem named_le {t : Tre} (h12 : t.length = 12) (h : ∀ n ∈ t, n.ents.length ≤ 10) (x : Int) : namedT t x ≤ 120 := by
  have h1 := allE_len (t := t) (m := 10) h
  have h2 := List.countP_le_length (p := fun e : Ent => decide (e.node = x)) (l := allE t)
  unfold namedT; omega
/-- A name more of a new node. -/
theorem new_may {t : Tre} (hM : mayT t = true) {d i : Nat} {s : ByteArray} {k : Int} (hk : k = 1 ∨ k = 2) (hd : d < 12) (hkd : kindT t d = 2) (hi : i < 12) (hki : kindT t i = 0) (hs : mayB s = true) (hn : hasE (entsT t d) s = false) (hl : (entsT t d).length < 10) :
    mayT ((entT t d (insE (entsT t d) ⟨s, i⟩)).set i (emptyN k)) = true := by
  have hF := mayF hM
  have h12 := hF.len
  have hi0 : i ≠ 0 := fun e => by rw [e, hF.top] at hki; cases hki
  have hid : i ≠ d := fun e => by rw [e, hkd] at hki; cases hki
  have hz := zero_of hF hi hki
  have hsole : soleE ⟨s, (i : Int)⟩ = true := by
    unfold soleE
    rw [show mayB (⟨s, (i : Int)⟩ : Ent).name = true from hs, decide_eq_true (show 1 ≤ (⟨s, (i : Int)⟩ : Ent).node by show (1 : Int) ≤ i; omega), decide_eq_true (show (⟨s, (i : Int)⟩ : Ent).node < 12 by show (i : Int) < 12; omega)]; rfl
  have hL := mayN_ents (hF.at hd)
  have hL' : mayL (insE (entsT t d) ⟨s, i⟩) = true := mayL_ins hL hsole hn hl
  have hat : ∀ j, ((entT t d (insE (entsT t d) ⟨s, i⟩)).set i (emptyN k)).getD j default = if j = i then emptyN k else if j = d then { t.getD d default with ents := insE (entsT t d) ⟨s, i⟩ } else t.getD j default := by
    intro j
    rw [getD_set (by rw [entT_len]; omega)]
    by_cases hj : j = i
    · rw [if_pos hj, if_pos hj]
    · rw [if_neg hj, if_neg hj]
      unfold entT; rw [getD_set (by omega)]
  have hee : (emptyN k).ents = [] := by rcases hk with rfl | rfl <;> rfl
  have hnm : ∀ x : Int, namedT ((entT t d (insE (entsT t d) ⟨s, i⟩)).set i (emptyN k)) x = namedT t x + if (i : Int) = x then 1 else 0 := by
    intro x
    have h1 := named_set (x := x) (t := entT t d (insE (entsT t d) ⟨s, i⟩)) (k := i) (n := emptyN k) (by rw [entT_len]; omega)
    have h2 : namedT (entT t d (insE (entsT t d) ⟨s, i⟩)) x + cntE (entsT t d) x = namedT t x + cntE (insE (entsT t d) ⟨s, i⟩) x := named_set (x := x) (t := t) (k := d) (n := { t.getD d default with ents := insE (entsT t d) ⟨s, i⟩ }) (by omega)
    have h3 : cntE (insE (entsT t d) ⟨s, i⟩) x = cntE (entsT t d) x + if (i : Int) = x then 1 else 0 := cnt_ins (entsT t d) ⟨s, i⟩ x
    have h4 : entsT (entT t d (insE (entsT t d) ⟨s, i⟩)) i = [] := by rw [entT_ents (by omega), if_neg hid]; unfold entsT; rw [hz]; rfl
    rw [h4, hee] at h1
    have h5 : cntE [] x = 0 := rfl
    omega
  generalize hu : (entT t d (insE (entsT t d) ⟨s, i⟩)).set i (emptyN k) = u at *
  have hul : u.length = 12 := by rw [← hu]; simp [entT_len, h12]
  have hkj : ∀ j, j ≠ i → kindT u j = kindT t j := by
    intro j hj
    unfold kindT; rw [hat, if_neg hj]
    split
    · rename_i e; subst e; rfl
    · rfl
  have hki' : kindT u i = k := by unfold kindT; rw [hat, if_pos rfl]; rcases hk with rfl | rfl <;> rfl
  have hed : entsT u d = insE (entsT t d) ⟨s, i⟩ := by unfold entsT; rw [hat, if_neg (fun e => hid e.symm), if_pos rfl]
  have hgrow : ∀ p e, e ∈ entsT t p → ∃ e' ∈ entsT u p, e'.node = e.node := by
    intro p e he
    have hp := hF.ent he
    have hpi : p ≠ i := fun e => by rw [e, hki] at hp; exact absurd hp.2.1 (by decide)
    by_cases hpd : p = d
    · subst hpd; rw [hed]; exact ⟨e, ins_mem.2 (.inr he), rfl⟩
    · refine ⟨e, ?_, rfl⟩
      unfold entsT; rw [hat, if_neg hpi, if_neg hpd]; exact he
  refine mayT_of ⟨hul, all_at hul fun j hj => ?_, ?_, fun j hj hkj2 => ?_, fun j hj hkj1 => ?_, fun j hj hkj0 => ?_⟩ ?_
  · rw [hat]; split
    · rcases hk with rfl | rfl <;> decide
    · split
      · exact dir_mayN (hF.at hd) hkd hL'
      · exact hF.at hj
  · rw [hkj 0 (fun e => hi0 e.symm)]; exact hF.top
  · by_cases hji : j = i
    · subst hji
      have hrd := reach_grow hgrow (hF.dir d hd hkd).1
      refine ⟨?_, .inr ?_⟩
      · have := Reach.step (x := ⟨s, (j : Int)⟩) hrd (by
          show _ ∈ entsT u d
          rw [hed]; exact ins_mem.2 (.inl rfl))
        simpa using this
      · rw [hnm, if_pos rfl, hF.none j hj hki]
    · rw [hkj j hji] at hkj2
      obtain ⟨h1, h2⟩ := hF.dir j hj hkj2
      refine ⟨reach_grow hgrow h1, ?_⟩
      rw [hnm, if_neg (by omega)]; exact h2
  · by_cases hji : j = i
    · subst hji
      rw [hnm, if_pos rfl, hF.none j hj hki, hat, if_pos rfl]
      rw [hki'] at hkj1; subst hkj1; rfl
    · rw [hkj j hji] at hkj1
      have := hF.file j hj hkj1
      rw [hnm, if_neg (by omega), hat, if_neg hji]
      split
      · rename_i e; subst e; exact this
      · exact this
  · by_cases hji : j = i
    · subst hji; rw [hki'] at hkj0; rcases hk with h | h <;> omega
    · rw [hkj j hji] at hkj0
      rw [hnm, if_neg (by omega)]; exact hF.none j hj hkj0
  · rw [← hu]
    refine apart_set (apart_set (mayT_apart hM) (by omega) (List.Sublist.refl _)) (by rw [entT_len]; omega) ?_
    have : (emptyN k).seqs.filter (fun s => decide (s ≠ 0)) = [] := by rcases hk with rfl | rfl <;> rfl
    rw [this]; exact List.nil_sublist _
/-- A name less of a node with nothing in it. -/
theorem rem_may {t : Tre} (hM : mayT t = true) {d i : Nat} {s : ByteArray} {x : Ent} {held : List Bool} (hx : x ∈ entsT t d) (hs : x.name = s) (hxi : x.node = i) (hemp : entsT t i = []) :
    mayT (lessT (entT t d (cutE (entsT t d) s)) i held) = true := by
  subst hs
  have hF := mayF hM
  have h12 := hF.len
  obtain ⟨hd, hkd, hi1, hi2, _, hki⟩ := hF.ent hx
  have hi : i < 12 := by omega
  rw [hxi, Int.toNat_natCast] at hki
  have hid : i ≠ d := fun e => hF.nocycle hx (by rw [hxi, Int.toNat_natCast, e]; exact .refl)
  have hL := mayN_ents (hF.at hd)
  have hL' := mayL_cut hL x.name
  have hone : 1 ≤ namedT t (i : Int) := named_one hx hxi
  -- the node as it is behind
  obtain ⟨ni, hni, hcase⟩ : ∃ ni, lessT (entT t d (cutE (entsT t d) x.name)) i held = (entT t d (cutE (entsT t d) x.name)).set i ni ∧ ((kindT t i = 1 ∧ ni = { t.getD i default with links := (t.getD i default).links - 1 }) ∨ (ni = Nod.zero ∧ (kindT t i = 1 → (t.getD i default).links ≤ 1))) := by
    unfold lessT
    have e1 := entT_at (t := t) (l := cutE (entsT t d) x.name) hid
    unfold kindT
    rw [e1]
    split
    · rename_i h; exact ⟨_, rfl, .inl ⟨h.1, rfl⟩⟩
    · rename_i h
      refine ⟨_, rfl, .inr ⟨rfl, fun hk => ?_⟩⟩
      apply Classical.byContradiction
      intro hl
      exact h ⟨hk, .inl (by omega)⟩
  rw [hni]
  have hnie : ni.ents = [] := by
    rcases hcase with ⟨_, rfl⟩ | ⟨rfl, _⟩
    · exact hemp
    · rfl
  have hat : ∀ j, ((entT t d (cutE (entsT t d) x.name)).set i ni).getD j default = if j = i then ni else if j = d then { t.getD d default with ents := cutE (entsT t d) x.name } else t.getD j default := by
    intro j
    rw [getD_set (by rw [entT_len]; omega)]
    by_cases hj : j = i
    · rw [if_pos hj, if_pos hj]
    · rw [if_neg hj, if_neg hj]
      unfold entT; rw [getD_set (by omega)]
  have hnm : ∀ y : Int, namedT ((entT t d (cutE (entsT t d) x.name)).set i ni) y + (if (i : Int) = y then 1 else 0) = namedT t y := by
    intro y
    have h1 := named_set (x := y) (t := entT t d (cutE (entsT t d) x.name)) (k := i) (n := ni) (by rw [entT_len]; omega)
    have h2 : namedT (entT t d (cutE (entsT t d) x.name)) y + cntE (entsT t d) y = namedT t y + cntE (cutE (entsT t d) x.name) y := named_set (x := y) (t := t) (k := d) (n := { t.getD d default with ents := cutE (entsT t d) x.name }) (by omega)
    have h3 : cntE (entsT t d) y = cntE (cutE (entsT t d) x.name) y + if x.node = y then 1 else 0 := cnt_cut hL hx y
    have h4 : entsT (entT t d (cutE (entsT t d) x.name)) i = [] := by rw [entT_ents (by omega), if_neg hid]; exact hemp
    rw [h4, hnie] at h1
    have h5 : cntE [] y = 0 := rfl
    rw [hxi] at h3
    omega
  generalize hu : (entT t d (cutE (entsT t d) x.name)).set i ni = u at *
  have hul : u.length = 12 := by rw [← hu]; simp [entT_len, h12]
  have hkj : ∀ j, j ≠ i → kindT u j = kindT t j := by
    intro j hj
    unfold kindT; rw [hat, if_neg hj]
    split
    · rename_i e; subst e; rfl
    · rfl
  have hki' : kindT u i = ni.kind := by unfold kindT; rw [hat, if_pos rfl]
  have hkeep : ∀ p e, e ∈ entsT t p → ¬ (e.node.toNat = i) → ∃ e' ∈ entsT u p, e'.node = e.node := by
    intro p e he hne
    have hp := hF.ent he
    have hpi : p ≠ i := fun q => by rw [q, hemp] at he; cases he
    refine ⟨e, ?_, rfl⟩
    unfold entsT; rw [hat, if_neg hpi]
    by_cases hpd : p = d
    · subst hpd
      rw [if_pos rfl]
      exact cut_mem.2 ⟨he, fun hn => hne (by rw [ent_one hF he hx hn, hxi]; rfl)⟩
    · rw [if_neg hpd]; exact he
  have hreach : ∀ j, j ≠ i → Reach t 0 j → Reach u 0 j := fun j hj hr =>
    reach_avoid (A := fun q => q = i) hkeep hr fun q hq hr2 => by subst hq; exact hj (reach_leaf hemp hr2)
  refine mayT_of ⟨hul, all_at hul fun j hj => ?_, ?_, fun j hj hkj2 => ?_, fun j hj hkj1 => ?_, fun j hj hkj0 => ?_⟩ ?_
  · rw [hat]; split
    · rcases hcase with ⟨h1, rfl⟩ | ⟨rfl, _⟩
      · have hf := hF.file i hi h1
        have hl := file_links hM hi
        exact file_mayN (hF.at hi) h1 (by omega) (by omega)
      · decide
    · split
      · exact dir_mayN (hF.at hd) hkd hL'
      · exact hF.at hj
  · rw [hkj 0 (fun e => by have := hF.zero hx; omega)]; exact hF.top
  · by_cases hji : j = i
    · subst hji
      rw [hki'] at hkj2
      rcases hcase with ⟨h1, rfl⟩ | ⟨rfl, _⟩
      · have : kindT t j = 2 := hkj2
        omega
      · exact absurd hkj2 (by decide)
    · rw [hkj j hji] at hkj2
      obtain ⟨h1, h2⟩ := hF.dir j hj hkj2
      refine ⟨hreach j hji h1, ?_⟩
      have := hnm j
      rw [if_neg (by omega)] at this
      omega
  · by_cases hji : j = i
    · subst hji
      have h3 := hnm j
      rw [if_pos rfl] at h3
      rw [hki'] at hkj1
      rcases hcase with ⟨h1, rfl⟩ | ⟨rfl, _⟩
      · have hf := hF.file j hj h1
        rw [hat, if_pos rfl]
        show (t.getD j default).links - 1 = _
        omega
      · exact absurd hkj1 (by decide)
    · rw [hkj j hji] at hkj1
      have := hF.file j hj hkj1
      have h3 := hnm j
      rw [if_neg (by omega)] at h3
      rw [hat, if_neg hji]
      split
      · rename_i e; subst e
        show (t.getD j default).links = _
        omega
      · omega
  · have h3 := hnm j
    by_cases hji : j = i
    · subst hji
      rw [if_pos rfl] at h3
      rw [hki'] at hkj0
      rcases hcase with ⟨h1, rfl⟩ | ⟨rfl, h2⟩
      · have : kindT t j = 0 := hkj0
        omega
      · rcases kind_of (hF.at hj) with hk | hk | hk
        · exact absurd hk hki
        · have hf := hF.file j hj hk
          have := h2 hk
          omega
        · have := (hF.dir j hj hk).2
          have := hF.zero hx
          omega
    · rw [hkj j hji] at hkj0
      have := hF.none j hj hkj0
      omega
  · rw [← hu]
    refine apart_set (apart_set (mayT_apart hM) (by omega) (List.Sublist.refl _)) (by rw [entT_len]; omega) ?_
    rw [entT_at hid]
    rcases hcase with ⟨_, rfl⟩ | ⟨rfl, _⟩
    · exact List.Sublist.refl _
    · exact List.nil_sublist _
end Go.Proofs.YtdlgpolngnkiaaaGreatDoor

/- What comes of a tree that may be may be: links, moves, drops; each call. -/
namespace Go.Proofs.YtdlgpolngnkiaaaGreatDoor
open Go
theorem sole_of {s : ByteArray} {i : Nat} (hs : mayB s = true) (h0 : i ≠ 0) (hi : i < 12) : soleE ⟨s, (i : Int)⟩ = true := by
  unfold soleE
  rw [show mayB (⟨s, (i : Int)⟩ : Ent).name = true from hs, decide_eq_true (show 1 ≤ (⟨s, (i : Int)⟩ : Ent).node by show (1 : Int) ≤ i; omega), decide_eq_true (show (⟨s, (i : Int)⟩ : Ent).node < 12 by show (i : Int) < 12; omega)]; rfl
theorem ents_le {t : Tre} (h : MayF t) {d : Nat} {l : List Ent} (hl : l.length ≤ 10) (hd : d < 12) : ∀ n ∈ entT t d l, n.ents.length ≤ 10 :=
  all_at (by rw [entT_len, h.len]) fun j hj => by
    have := entT_ents (t := t) (d := d) (j := j) (l := l) (by rw [h.len]; exact hd)
    unfold entsT at this
    rw [this]; split
    · exact hl
    · exact mayL_len (mayN_ents (h.at hj))
/-- A name more of a file. -/
theorem link_may {t : Tre} (hM : mayT t = true) {d i : Nat} {s : ByteArray} (hd : d < 12) (hkd : kindT t d = 2) (hi : i < 12) (hki : kindT t i = 1) (hs : mayB s = true) (hn : hasE (entsT t d) s = false) (hl : (entsT t d).length < 10) :
    mayT ((entT t d (insE (entsT t d) ⟨s, i⟩)).set i { t.getD i default with links := (t.getD i default).links + 1 }) = true := by
  have hF := mayF hM
  have h12 := hF.len
  have hi0 : i ≠ 0 := fun e => by rw [e, hF.top] at hki; cases hki
  have hid : i ≠ d := fun e => by rw [e, hkd] at hki; cases hki
  have hemp := file_noents hF hi (by omega)
  have hL := mayN_ents (hF.at hd)
  have hL' : mayL (insE (entsT t d) ⟨s, i⟩) = true := mayL_ins hL (sole_of hs hi0 hi) hn hl
  have hat : ∀ j, ((entT t d (insE (entsT t d) ⟨s, i⟩)).set i { t.getD i default with links := (t.getD i default).links + 1 }).getD j default = if j = i then { t.getD i default with links := (t.getD i default).links + 1 } else if j = d then { t.getD d default with ents := insE (entsT t d) ⟨s, i⟩ } else t.getD j default := by
    intro j
    rw [getD_set (by rw [entT_len]; omega)]
    by_cases hj : j = i
    · rw [if_pos hj, if_pos hj]
    · rw [if_neg hj, if_neg hj]
      unfold entT; rw [getD_set (by omega)]
  have hnm0 : ∀ x : Int, namedT (entT t d (insE (entsT t d) ⟨s, i⟩)) x = namedT t x + if (i : Int) = x then 1 else 0 := by
    intro x
    have h2 : namedT (entT t d (insE (entsT t d) ⟨s, i⟩)) x + cntE (entsT t d) x = namedT t x + cntE (insE (entsT t d) ⟨s, i⟩) x := named_set (x := x) (t := t) (k := d) (n := { t.getD d default with ents := insE (entsT t d) ⟨s, i⟩ }) (by omega)
    have h3 : cntE (insE (entsT t d) ⟨s, i⟩) x = cntE (entsT t d) x + if (i : Int) = x then 1 else 0 := cnt_ins (entsT t d) ⟨s, i⟩ x
    omega
  have hnm : ∀ x : Int, namedT ((entT t d (insE (entsT t d) ⟨s, i⟩)).set i { t.getD i default with links := (t.getD i default).links + 1 }) x = namedT t x + if (i : Int) = x then 1 else 0 := by
    intro x
    have h1 := named_set (x := x) (t := entT t d (insE (entsT t d) ⟨s, i⟩)) (k := i) (n := { t.getD i default with links := (t.getD i default).links + 1 }) (by rw [entT_len]; omega)
    have h4 : entsT (entT t d (insE (entsT t d) ⟨s, i⟩)) i = [] := by rw [entT_ents (by omega), if_neg hid]; exact hemp
    have h5 : ({ t.getD i default with links := (t.getD i default).links + 1 } : Nod).ents = [] := hemp
    rw [h4, h5] at h1
    have h6 := hnm0 x
    omega
  have hle := named_le (t := entT t d (insE (entsT t d) ⟨s, i⟩)) (by rw [entT_len, h12]) (ents_le hF (mayL_len hL') hd) i
  rw [hnm0, if_pos rfl] at hle
  generalize hu : (entT t d (insE (entsT t d) ⟨s, i⟩)).set i { t.getD i default with links := (t.getD i default).links + 1 } = u at *
  have hul : u.length = 12 := by rw [← hu]; simp [entT_len, h12]
  have hkj : ∀ j, kindT u j = kindT t j := by
    intro j
    unfold kindT; rw [hat]
    split
    · rename_i e; subst e; rfl
    · split
      · rename_i e; subst e; rfl
      · rfl
  have hed : entsT u d = insE (entsT t d) ⟨s, i⟩ := by unfold entsT; rw [hat, if_neg (fun e => hid e.symm), if_pos rfl]
  have hgrow : ∀ p e, e ∈ entsT t p → ∃ e' ∈ entsT u p, e'.node = e.node := by
    intro p e he
    by_cases hpd : p = d
    · subst hpd; rw [hed]; exact ⟨e, ins_mem.2 (.inr he), rfl⟩
    · refine ⟨e, ?_, rfl⟩
      unfold entsT; rw [hat]
      split
      · rename_i e2; subst e2; exact he
      · exact he
  have hfi := hF.file i hi hki
  refine mayT_of ⟨hul, all_at hul fun j hj => ?_, by rw [hkj]; exact hF.top, fun j hj hkj2 => ?_, fun j hj hkj1 => ?_, fun j hj hkj0 => ?_⟩ ?_
  · rw [hat]; split
    · exact file_mayN (hF.at hi) hki (by omega) (by omega)
    · split
      · exact dir_mayN (hF.at hd) hkd hL'
      · exact hF.at hj
  · rw [hkj] at hkj2
    obtain ⟨h1, h2⟩ := hF.dir j hj hkj2
    refine ⟨reach_grow hgrow h1, ?_⟩
    have hji : j ≠ i := fun e => by rw [e, hki] at hkj2; cases hkj2
    rw [hnm, if_neg (by omega)]; exact h2
  · rw [hkj] at hkj1
    have hf := hF.file j hj hkj1
    by_cases hji : j = i
    · subst hji
      rw [hnm, if_pos rfl, hat, if_pos rfl]
      show (t.getD j default).links + 1 = _
      omega
    · rw [hnm, if_neg (by omega), hat, if_neg hji]
      split
      · rename_i e; subst e; exact hf
      · exact hf
  · rw [hkj] at hkj0
    have hji : j ≠ i := fun e => by rw [e, hki] at hkj0; cases hkj0
    rw [hnm, if_neg (by omega)]; exact hF.none j hj hkj0
  · rw [← hu]
    refine apart_set (apart_set (mayT_apart hM) (by omega) (List.Sublist.refl _)) (by rw [entT_len]; omega) ?_
    rw [entT_at hid]; exact List.Sublist.refl _
/-- A file without names goes. -/
theorem drop_may {t : Tre} (hM : mayT t = true) {i : Nat} (hi : i < 12) (hki : kindT t i = 1) (hl : (t.getD i default).links ≤ 0) : mayT (t.set i Nod.zero) = true := by
  have hF := mayF hM
  have h12 := hF.len
  have hemp := file_noents hF hi (by omega)
  have hfi := hF.file i hi hki
  have hat : ∀ j, (t.set i Nod.zero).getD j default = if j = i then Nod.zero else t.getD j default := fun j => getD_set (by omega)
  have hents : ∀ j, entsT (t.set i Nod.zero) j = entsT t j := by
    intro j
    unfold entsT; rw [hat]
    split
    · rename_i e; subst e; exact hemp.symm
    · rfl
  have hnm : ∀ x : Int, namedT (t.set i Nod.zero) x = namedT t x := by
    intro x
    have h1 := named_set (x := x) (t := t) (k := i) (n := Nod.zero) (by omega)
    rw [hemp] at h1
    have h5 : cntE Nod.zero.ents x = 0 := rfl
    have h6 : cntE [] x = 0 := rfl
    omega
  have hul : (t.set i Nod.zero).length = 12 := by simp [h12]
  refine mayT_of ⟨hul, all_at hul fun j hj => ?_, ?_, fun j hj hkj2 => ?_, fun j hj hkj1 => ?_, fun j hj hkj0 => ?_⟩ ?_
  · rw [hat]; split
    · decide
    · exact hF.at hj
  · unfold kindT; rw [hat, if_neg (fun e => by rw [← e, hF.top] at hki; cases hki)]; exact hF.top
  · have hji : j ≠ i := fun e => by subst e; unfold kindT at hkj2; rw [hat, if_pos rfl] at hkj2; cases hkj2
    have hkj2 : kindT t j = 2 := by unfold kindT at hkj2 ⊢; rw [hat, if_neg hji] at hkj2; exact hkj2
    obtain ⟨h1, h2⟩ := hF.dir j hj hkj2
    exact ⟨reach_grow (fun p e he => ⟨e, by rw [hents]; exact he, rfl⟩) h1, by rw [hnm]; exact h2⟩
  · have hji : j ≠ i := fun e => by subst e; unfold kindT at hkj1; rw [hat, if_pos rfl] at hkj1; cases hkj1
    have hkj1 : kindT t j = 1 := by unfold kindT at hkj1 ⊢; rw [hat, if_neg hji] at hkj1; exact hkj1
    rw [hat, if_neg hji, hnm]; exact hF.file j hj hkj1
  · rw [hnm]
    by_cases hji : j = i
    · subst hji; omega
    · have hkj0 : kindT t j = 0 := by unfold kindT at hkj0 ⊢; rw [hat, if_neg hji] at hkj0; exact hkj0
      exact hF.none j hj hkj0
  · exact apart_set (mayT_apart hM) (by omega) (List.nil_sublist _)
/-- A name goes from one directory into another one. -/
theorem move_may {t : Tre} (hM : mayT t = true) {d f i : Nat} {n r : ByteArray} {x : Ent} (hx : x ∈ entsT t d) (hxn : x.name = n) (hxi : x.node = i) (hf : f < 12) (hkf : kindT t f = 2) (hr : mayB r = true) (hno : ¬ Reach t i f) (hh : hasE (E1 t d n f) r = false) (hl : (E1 t d n f).length < 10) :
    mayT (entT (entT t d (cutE (entsT t d) n)) f (insE (E1 t d n f) ⟨r, i⟩)) = true := by
  subst hxn
  have hF := mayF hM
  have h12 := hF.len
  obtain ⟨hd, hkd, hi1, hi2, _, hki⟩ := hF.ent hx
  have hi : i < 12 := by omega
  rw [hxi, Int.toNat_natCast] at hki
  have hL := mayN_ents (hF.at hd)
  have hE : mayL (E1 t d x.name f) = true := by
    unfold E1; split
    · exact mayL_cut hL _
    · exact mayN_ents (hF.at hf)
  have hE' : mayL (insE (E1 t d x.name f) ⟨r, i⟩) = true := mayL_ins hE (sole_of hr (by omega) hi) hh hl
  have hat : ∀ j, (entT (entT t d (cutE (entsT t d) x.name)) f (insE (E1 t d x.name f) ⟨r, i⟩)).getD j default = if j = f then { t.getD f default with ents := insE (E1 t d x.name f) ⟨r, i⟩ } else if j = d then { t.getD d default with ents := cutE (entsT t d) x.name } else t.getD j default := by
    intro j
    by_cases hj : j = f
    · subst hj
      rw [if_pos rfl, entT_same (by rw [entT_len]; omega)]
      by_cases e : j = d
      · subst e; rw [entT_same (by omega)]
      · rw [entT_at e]
    · rw [if_neg hj, entT_at hj]
      by_cases e : j = d
      · subst e; rw [if_pos rfl, entT_same (by omega)]
      · rw [if_neg e, entT_at e]
  have hnm : ∀ y : Int, namedT (entT (entT t d (cutE (entsT t d) x.name)) f (insE (E1 t d x.name f) ⟨r, i⟩)) y = namedT t y := by
    intro y
    have h1 : namedT (entT (entT t d (cutE (entsT t d) x.name)) f (insE (E1 t d x.name f) ⟨r, i⟩)) y + cntE (entsT (entT t d (cutE (entsT t d) x.name)) f) y = namedT (entT t d (cutE (entsT t d) x.name)) y + cntE (insE (E1 t d x.name f) ⟨r, i⟩) y := named_set (x := y) (t := entT t d (cutE (entsT t d) x.name)) (k := f) (n := { (entT t d (cutE (entsT t d) x.name)).getD f default with ents := insE (E1 t d x.name f) ⟨r, i⟩ }) (by rw [entT_len]; omega)
    have h2 : namedT (entT t d (cutE (entsT t d) x.name)) y + cntE (entsT t d) y = namedT t y + cntE (cutE (entsT t d) x.name) y := named_set (x := y) (t := t) (k := d) (n := { t.getD d default with ents := cutE (entsT t d) x.name }) (by omega)
    have h3 : cntE (entsT t d) y = cntE (cutE (entsT t d) x.name) y + if x.node = y then 1 else 0 := cnt_cut hL hx y
    have h4 : cntE (insE (E1 t d x.name f) ⟨r, i⟩) y = cntE (E1 t d x.name f) y + if (i : Int) = y then 1 else 0 := cnt_ins _ _ _
    have h5 : entsT (entT t d (cutE (entsT t d) x.name)) f = E1 t d x.name f := by rw [entT_ents (by omega)]; rfl
    rw [h5] at h1
    rw [hxi] at h3
    omega
  generalize hu : entT (entT t d (cutE (entsT t d) x.name)) f (insE (E1 t d x.name f) ⟨r, i⟩) = u at *
  have hul : u.length = 12 := by rw [← hu, entT_len, entT_len, h12]
  have hkj : ∀ j, kindT u j = kindT t j := by
    intro j
    unfold kindT; rw [hat]
    split
    · rename_i e; subst e; rfl
    · split
      · rename_i e; subst e; rfl
      · rfl
  have hlk : ∀ j, (u.getD j default).links = (t.getD j default).links := by
    intro j
    rw [hat]
    split
    · rename_i e; subst e; rfl
    · split
      · rename_i e; subst e; rfl
      · rfl
  have hkeep : ∀ p e, e ∈ entsT t p → ¬ (e.node.toNat = i) → e ∈ entsT u p := by
    intro p e he hne
    have hcut : p = d → e ∈ cutE (entsT t d) x.name := fun hp => by
      subst hp
      exact cut_mem.2 ⟨he, fun hn => hne (by rw [ent_one hF he hx hn, hxi]; rfl)⟩
    unfold entsT; rw [hat]
    split
    · rename_i e2; subst e2
      refine ins_mem.2 (.inr ?_)
      unfold E1; split
      · rename_i e3; exact hcut e3
      · exact he
    · split
      · rename_i e3; exact hcut e3
      · exact he
  have hnew : (⟨r, (i : Int)⟩ : Ent) ∈ entsT u f := by
    unfold entsT; rw [hat, if_pos rfl]; exact ins_mem.2 (.inl rfl)
  have hav : ∀ j, ¬ Reach t i j → Reach t 0 j → Reach u 0 j := fun j hj hr2 =>
    reach_avoid (A := fun q => q = i) (fun p e he hne => ⟨e, hkeep p e he hne, rfl⟩) hr2 fun q hq hr3 => by subst hq; exact hj hr3
  have hrf := hav f hno (hF.dir f hf hkf).1
  have hri : Reach u 0 i := by
    have := Reach.step (x := ⟨r, (i : Int)⟩) hrf hnew
    simpa using this
  have hin : ∀ j, Reach t i j → Reach u i j := by
    intro j hr2
    induction hr2 with
    | refl => exact .refl
    | @step p e hp he ih =>
      refine .step ih (hkeep p e he fun h => ?_)
      exact hF.nocycle he (by rw [h]; exact hp)
  have hreach : ∀ j, Reach t 0 j → Reach u 0 j := fun j hr2 => by
    by_cases hj : Reach t i j
    · exact hri.trans (hin j hj)
    · exact hav j hj hr2
  refine mayT_of ⟨hul, all_at hul fun j hj => ?_, by rw [hkj]; exact hF.top, fun j hj hkj2 => ?_, fun j hj hkj1 => ?_, fun j hj hkj0 => ?_⟩ ?_
  · rw [hat]; split
    · exact dir_mayN (hF.at hf) hkf hE'
    · split
      · exact dir_mayN (hF.at hd) hkd (mayL_cut hL _)
      · exact hF.at hj
  · rw [hkj] at hkj2
    obtain ⟨h1, h2⟩ := hF.dir j hj hkj2
    exact ⟨hreach j h1, by rw [hnm]; exact h2⟩
  · rw [hkj] at hkj1
    rw [hlk, hnm]; exact hF.file j hj hkj1
  · rw [hkj] at hkj0
    rw [hnm]; exact hF.none j hj hkj0
  · rw [← hu]
    exact apart_set (apart_set (mayT_apart hM) (by omega) (List.Sublist.refl _)) (by rw [entT_len]; omega) (List.Sublist.refl _)
/-! ### each call -/
theorem makes_may {t u : Tre} {p : ByteArray} {k : Int} (hk : k = 1 ∨ k = 2) (h : makesT t p k = .ok u) : mayT u = true := by
  unfold makesT at h
  cases hq : parentT t p with
  | error e => rw [hq] at h; cases h
  | ok q =>
    obtain ⟨d, s⟩ := q
    obtain ⟨ld, P⟩ := par_of hq
    rw [hq] at h
    dsimp only at h
    by_cases h0 : 0 ≤ atI (entsT t d) s
    · rw [if_pos h0] at h; cases h
    by_cases h1 : freeT t < 0
    · rw [if_neg h0, if_pos h1] at h; cases h
    by_cases h2 : 10 ≤ (entsT t d).length
    · rw [if_neg h0, if_neg h1, if_pos h2] at h; cases h
    rw [if_neg h0, if_neg h1, if_neg h2] at h
    cases h
    obtain ⟨f1, f2, f3⟩ : 1 ≤ freeT t ∧ freeT t < 12 ∧ kindT t (freeT t).toNat = 0 := by
      rcases free_spec P.may with h | h
      · omega
      · exact h
    have := new_may P.may hk P.d12 P.kind (i := (freeT t).toNat) (by omega) f3 P.sole (by rw [has_of_at P, decide_eq_false h0]) (by omega)
    rwa [show (((freeT t).toNat : Nat) : Int) = freeT t by omega] at this
theorem unlink_may {t u : Tre} {p : ByteArray} {held : List Bool} (h : unlinkT t p held = .ok u) : mayT u = true := by
  unfold unlinkT at h
  cases hq : parentT t p with
  | error e => rw [hq] at h; cases h
  | ok q =>
    obtain ⟨d, s⟩ := q
    obtain ⟨ld, P⟩ := par_of hq
    rw [hq] at h
    dsimp only at h
    by_cases h0 : atI (entsT t d) s < 0
    · rw [if_pos h0] at h; cases h
    by_cases h1 : kindT t (atI (entsT t d) s).toNat = 2
    · rw [if_neg h0, if_pos h1] at h; cases h
    rw [if_neg h0, if_neg h1] at h
    cases h
    obtain ⟨_, k1, k2, _, x, hx, hxn, hxi⟩ := at_kind P.may h0
    exact rem_may P.may hx hxn (by omega) (file_noents (mayF P.may) (by omega) h1)
theorem rmdir_may {t u : Tre} {p : ByteArray} (h : rmdirT t p = .ok u) : mayT u = true := by
  unfold rmdirT at h
  cases hq : parentT t p with
  | error e => rw [hq] at h; cases h
  | ok q =>
    obtain ⟨d, s⟩ := q
    obtain ⟨ld, P⟩ := par_of hq
    rw [hq] at h
    dsimp only at h
    by_cases h0 : atI (entsT t d) s < 0
    · rw [if_pos h0] at h; cases h
    by_cases h1 : kindT t (atI (entsT t d) s).toNat ≠ 2
    · rw [if_neg h0, if_pos h1] at h; cases h
    by_cases h2 : 0 < (entsT t (atI (entsT t d) s).toNat).length
    · rw [if_neg h0, if_neg h1, if_pos h2] at h; cases h
    rw [if_neg h0, if_neg h1, if_neg h2] at h
    cases h
    obtain ⟨_, k1, k2, _, x, hx, hxn, hxi⟩ := at_kind P.may h0
    have h3 := rem_may (held := []) P.may hx hxn (i := (atI (entsT t d) s).toNat) (by omega) (List.eq_nil_of_length_eq_zero (by omega))
    have hne := cutd_self P.may h0
    have e2 : lessT (entT t d (cutE (entsT t d) s)) (atI (entsT t d) s).toNat [] = (entT t d (cutE (entsT t d) s)).set (atI (entsT t d) s).toNat Nod.zero := by
      unfold lessT
      rw [if_neg]
      rintro ⟨h, _⟩
      have h1 : kindT t (atI (entsT t d) s).toNat = 2 := Classical.byContradiction h1
      unfold kindT at h h1
      rw [entT_at hne] at h; omega
    rwa [e2] at h3
theorem link_mayT {t u : Tre} {p q : ByteArray} (h : linkT t p q = .ok u) : mayT u = true := by
  unfold linkT at h
  cases hf : findT t p with
  | error e => rw [hf] at h; cases h
  | ok i =>
    have hi := findT_range hf
    have hM : mayT t = true := by unfold findT at hf; split at hf; assumption; cases hf
    rw [hf] at h
    dsimp only at h
    by_cases hk : kindT t i = 2
    · rw [if_pos hk] at h; cases h
    rw [if_neg hk] at h
    cases hr : parentT t q with
    | error e => rw [hr] at h; cases h
    | ok z =>
      obtain ⟨d, s⟩ := z
      obtain ⟨ld, P⟩ := par_of hr
      rw [hr] at h
      dsimp only at h
      by_cases h0 : 0 ≤ atI (entsT t d) s
      · rw [if_pos h0] at h; cases h
      by_cases h2 : 10 ≤ (entsT t d).length
      · rw [if_neg h0, if_pos h2] at h; cases h
      rw [if_neg h0, if_neg h2] at h
      cases h
      -- what is found is there
      have hk1 : kindT t i = 1 := by
        have hF := mayF hM
        rcases kind_of (hF.at hi) with h | h | h
        · exfalso
          unfold findT at hf
          rw [if_pos hM] at hf
          split at hf
          · cases hf
          · rename_i l hl
            rcases nil_or_snoc l with rfl | ⟨m, n, rfl⟩
            · cases hf
              have := hF.top
              have h : kindT t 0 = 0 := h
              omega
            · obtain ⟨p, _, hg⟩ := (goF_snoc t n m 0 i).1 hf
              obtain ⟨_, e, he, _, h2⟩ := goF_one hg
              have := (hF.ent he).2.2.2.2.2
              rw [h2] at this
              exact this h
        · exact h
        · exact absurd h hk
      exact link_may hM P.d12 P.kind hi hk1 P.sole (by rw [has_of_at P, decide_eq_false h0]) (by omega)
theorem drop_mayT {t u : Tre} {i : Int} (h : dropT t i = .ok u) : mayT u = true := by
  unfold dropT at h
  split at h
  · rename_i hM
    split at h
    · rename_i hc
      cases h
      exact drop_may hM (by omega) hc.2.2.1 hc.2.2.2
    · cases h
  · cases h
end Go.Proofs.YtdlgpolngnkiaaaGreatDoor

/- What comes of a tree that may be may be: renames. -/
namespace Go.Proofs.YtdlgpolngnkiaaaGreatDoor
open Go
def lessN (n : Nod) (b : Bool) : Nod := if n.kind = 1 ∧ (0 < n.links - 1 ∨ b = true) then { n with links := n.links - 1 } else Nod.zero
theorem lessT_get {t : Tre} {i j : Nat} {held : List Bool} (hi : i < t.length) : (lessT t i held).getD j default = if j = i then lessN (t.getD i default) (heldB held i) else t.getD j default := by
  have e : lessT t i held = t.set i (lessN (t.getD i default) (heldB held i)) := by
    unfold lessT lessN kindT
    by_cases h : (t.getD i default).kind = 1 ∧ (0 < (t.getD i default).links - 1 ∨ heldB held i = true)
    · rw [if_pos h, if_pos h]
    · rw [if_neg h, if_neg h]
  rw [e, getD_set hi]
theorem entT_get {t : Tre} {d j : Nat} {l : List Ent} (hd : d < t.length) : (entT t d l).getD j default = if j = d then { t.getD d default with ents := l } else t.getD j default := getD_set hd
theorem ext_getD {t u : Tre} (hl : t.length = u.length) (h : ∀ j, j < t.length → t.getD j default = u.getD j default) : t = u := by
  apply List.ext_getElem hl
  intro j h1 h2
  have := h j h1
  rwa [getD_at h1, getD_at h2] at this
theorem cut_comm (l : List Ent) (a b : ByteArray) : cutE (cutE l a) b = cutE (cutE l b) a := by
  unfold cutE; rw [List.filter_filter, List.filter_filter]
  congr 1; funext e; exact Bool.and_comm _ _
/-- What a rename knows behind its checks. -/
structure Ren (t : Tre) (p q : ByteArray) (held : List Bool) (u : Tre) (d : Nat) (n : ByteArray) (ld : List ByteArray) (f : Nat) (r : ByteArray) (lf : List ByteArray) (i : Nat) : Prop where
  P : Par t p ld d n
  Q : Par t q lf f r
  hi : atI (entsT t d) n = i
  ne : atI (entsT t f) r ≠ i
  out : insideT t i f = false
  rep : 0 ≤ atI (entsT t f) r → replN (t.getD i default) (t.getD (atI (entsT t f) r).toNat default) = 0
  room : (entsT (moveT t d n i f r (atI (entsT t f) r) held) f).length < 10
  eq : u = entT (moveT t d n i f r (atI (entsT t f) r) held) f (insE (entsT (moveT t d n i f r (atI (entsT t f) r) held) f) ⟨r, i⟩)
theorem ren_of {t u : Tre} {p q : ByteArray} {held : List Bool} (h : renameT t p q held = .ok u) : (u = t ∧ ∃ ld d n lf f r, Par t p ld d n ∧ Par t q lf f r ∧ 0 ≤ atI (entsT t d) n ∧ atI (entsT t f) r = atI (entsT t d) n) ∨ ∃ d n ld f r lf i, Ren t p q held u d n ld f r lf i := by
  unfold renameT at h
  cases hP : parentT t p with
  | error e => rw [hP] at h; cases h
  | ok z =>
    obtain ⟨d, n⟩ := z
    obtain ⟨ld, P⟩ := par_of hP
    rw [hP] at h
    dsimp only at h
    by_cases h0 : atI (entsT t d) n < 0
    · rw [if_pos h0] at h; cases h
    rw [if_neg h0] at h
    cases hQ : parentT t q with
    | error e => rw [hQ] at h; cases h
    | ok z =>
      obtain ⟨f, r⟩ := z
      obtain ⟨lf, Q⟩ := par_of hQ
      rw [hQ] at h
      dsimp only at h
      by_cases h1 : atI (entsT t f) r = atI (entsT t d) n
      · rw [if_pos h1] at h; cases h
        exact .inl ⟨rfl, ld, d, n, lf, f, r, P, Q, by omega, h1⟩
      rw [if_neg h1] at h
      obtain ⟨i, hi⟩ : ∃ i : Nat, atI (entsT t d) n = i := ⟨(atI (entsT t d) n).toNat, by omega⟩
      rw [hi] at h h1
      by_cases h2 : insideT t i f = true
      · rw [if_pos h2] at h; cases h
      rw [if_neg h2] at h
      by_cases h3 : 0 ≤ atI (entsT t f) r ∧ replN (t.getD ((i : Int)).toNat default) (t.getD (atI (entsT t f) r).toNat default) ≠ 0
      · rw [if_pos h3] at h; cases h
      rw [if_neg h3] at h
      rw [Int.toNat_natCast] at h h3
      by_cases h4 : 10 ≤ (entsT (moveT t d n i f r (atI (entsT t f) r) held) f).length
      · rw [if_pos h4] at h; cases h
      rw [if_neg h4] at h
      cases h
      refine .inr ⟨d, n, ld, f, r, lf, i, P, Q, hi, h1, by simpa using h2, fun hk => ?_, by omega, rfl⟩
      apply Classical.byContradiction
      intro hc
      exact h3 ⟨hk, hc⟩
section
variable {t u : Tre} {p q n r : ByteArray} {held : List Bool} {d f i : Nat} {ld lf : List ByteArray}
theorem Ren.ent (R : Ren t p q held u d n ld f r lf i) : i ≠ 0 ∧ i < 12 ∧ kindT t i ≠ 0 ∧ ∃ x ∈ entsT t d, x.name = n ∧ x.node = i := by
  obtain ⟨_, k1, k2, k3, x, hx, hxn, hxi⟩ := at_kind R.P.may (d := d) (s := n) (by rw [R.hi]; omega)
  rw [R.hi] at k1 k2 k3 hxi
  exact ⟨by omega, by omega, by rwa [Int.toNat_natCast] at k3, x, hx, hxn, hxi⟩
theorem Ren.no (R : Ren t p q held u d n ld f r lf i) : ¬ Reach t i f := by
  intro hr
  obtain ⟨_, hi, hk, _⟩ := R.ent
  have h := insideT_iff R.P.may hi R.Q.d12
  rw [R.out, metB_iff.2 hr, Bool.and_true] at h
  have hk2 : kindT t i ≠ 2 := of_decide_eq_false h.symm
  have hF := mayF R.P.may
  have := reach_leaf (file_noents hF hi hk2) hr
  subst this
  exact hk2 R.Q.kind
/-- Who stands where it goes: in it there is nothing. -/
theorem Ren.old (R : Ren t p q held u d n ld f r lf i) (hk : 0 ≤ atI (entsT t f) r) : ∃ k : Nat, atI (entsT t f) r = k ∧ k ≠ 0 ∧ k < 12 ∧ k ≠ f ∧ k ≠ d ∧ k ≠ i ∧ entsT t k = [] ∧ (t.getD k default).kind = (t.getD i default).kind ∧ (kindT t k = 1 ∨ kindT t k = 2) ∧ ∃ y ∈ entsT t f, y.name = r ∧ y.node = k := by
  have hF := mayF R.P.may
  obtain ⟨_, k1, k2, k3, y, hy, hyn, hyi⟩ := at_kind R.Q.may (d := f) (s := r) (by omega)
  obtain ⟨hi0, hi, hik, x, hx, hxn, hxi⟩ := R.ent
  have hrep := R.rep hk
  have hne := R.ne
  have hkf := cutd_self R.Q.may (d := f) (s := r) (by omega)
  obtain ⟨k, hk'⟩ : ∃ k : Nat, atI (entsT t f) r = k := ⟨(atI (entsT t f) r).toNat, by omega⟩
  rw [hk'] at k1 k2 k3 hyi hrep hne hkf
  rw [Int.toNat_natCast] at k3 hrep hkf
  have hkind : (t.getD k default).kind = (t.getD i default).kind ∧ (t.getD k default).ents = [] := by
    unfold replN at hrep
    have a1 := kind_of (hF.at (i := k) (by omega))
    have a2 := kind_of (hF.at hi)
    have hk0 : (t.getD k default).kind ≠ 0 := k3
    have hi0 : (t.getD i default).kind ≠ 0 := hik
    by_cases b1 : (t.getD i default).kind = 2 ∧ (t.getD k default).kind ≠ 2
    · rw [if_pos b1] at hrep; cases hrep
    by_cases b2 : (t.getD i default).kind ≠ 2 ∧ (t.getD k default).kind = 2
    · rw [if_neg b1, if_pos b2] at hrep; cases hrep
    by_cases b3 : 0 < (t.getD k default).ents.length
    · rw [if_neg b1, if_neg b2, if_pos b3] at hrep; cases hrep
    exact ⟨by omega, List.eq_nil_of_length_eq_zero (by omega)⟩
  refine ⟨k, hk', by omega, by omega, hkf, fun e => ?_, by omega, hkind.2, hkind.1, ?_, y, hy, hyn, hyi⟩
  · subst e
    unfold entsT at hx
    rw [hkind.2] at hx; cases hx
  · rcases kind_of (hF.at (i := k) (by omega)) with h | h | h
    · exact absurd h k3
    · exact .inl h
    · exact .inr h
/-- The tree without who stood there. -/
def remT (t : Tre) (f : Nat) (r : ByteArray) (k : Nat) (held : List Bool) : Tre := lessT (entT t f (cutE (entsT t f) r)) k held
theorem Ren.rem (R : Ren t p q held u d n ld f r lf i) {k : Nat} (hk : atI (entsT t f) r = k) : mayT (remT t f r k held) = true ∧ moveT t d n i f r k held = entT (remT t f r k held) d (cutE (entsT (remT t f r k held) d) n) ∧ (∀ j, (remT t f r k held).getD j default = if j = k then lessN (t.getD k default) (heldB held k) else if j = f then { t.getD f default with ents := cutE (entsT t f) r } else t.getD j default) := by
  obtain ⟨k', hk', hk0, hk12, hkf, hkd, hki, hemp, _, _, y, hy, hyn, hyi⟩ := R.old (by omega)
  have : k' = k := by omega
  subst this
  have h12 := (mayT_all R.P.may).1
  have hf := R.Q.d12; have hd := R.P.d12
  have hget : ∀ j, (remT t f r k' held).getD j default = if j = k' then lessN (t.getD k' default) (heldB held k') else if j = f then { t.getD f default with ents := cutE (entsT t f) r } else t.getD j default := by
    intro j
    unfold remT
    rw [lessT_get (by rw [entT_len]; omega), entT_get (by omega), if_neg hkf, entT_get (by omega)]
  have hents : ∀ j, entsT (remT t f r k' held) j = if j = f then cutE (entsT t f) r else if j = k' then [] else entsT t j := by
    intro j
    unfold entsT; rw [hget]
    by_cases h1 : j = k'
    · subst h1
      rw [if_pos rfl, if_neg hkf, if_pos rfl]
      unfold lessN; split
      · exact hemp
      · rfl
    · rw [if_neg h1]
      by_cases h2 : j = f
      · rw [if_pos h2, if_pos h2]
      · rw [if_neg h2, if_neg h2, if_neg h1]
  have hlen : (remT t f r k' held).length = 12 := by unfold remT; rw [lessT_len, entT_len, h12]
  refine ⟨rem_may R.P.may hy hyn hyi hemp, ?_, hget⟩
  unfold moveT
  rw [if_pos (by omega), Int.toNat_natCast]
  refine ext_getD (by rw [lessT_len, entT_len, entT_len, entT_len, hlen, h12]) fun j _ => ?_
  rw [lessT_get (by rw [entT_len, entT_len]; omega), entT_get (by rw [entT_len]; omega), if_neg hkf, entT_get (by omega), if_neg hkd, entT_get (by rw [entT_len]; omega), entT_get (by omega), entT_get (by omega), entT_get (by omega), hget, hget, hents]
  by_cases h1 : j = k'
  · subst h1; rw [if_pos rfl, if_neg hkd, if_pos rfl]
  rw [if_neg h1, if_neg h1]
  by_cases h2 : j = f
  · subst h2
    rw [if_pos rfl, if_pos rfl]
    by_cases h3 : j = d
    · subst h3
      rw [if_pos rfl, if_pos rfl, if_neg h1, if_pos rfl, if_pos rfl, entT_ents (by omega), if_pos rfl, cut_comm]
    · rw [if_neg h3, if_neg h3, entT_ents (by omega), if_neg h3]
  · rw [if_neg h2, if_neg h2]
    by_cases h3 : j = d
    · subst h3
      rw [if_pos rfl, if_pos rfl, if_neg h1, if_neg h2, if_neg h2, if_neg h1]
    · rw [if_neg h3, if_neg h3]
theorem Ren.may (R : Ren t p q held u d n ld f r lf i) : mayT u = true := by
  obtain ⟨hi0, hi, hik, x, hx, hxn, hxi⟩ := R.ent
  have hF := mayF R.P.may
  have h12 := hF.len
  have hf := R.Q.d12; have hd := R.P.d12
  have hroom := R.room
  rw [R.eq]
  by_cases hk : 0 ≤ atI (entsT t f) r
  · obtain ⟨k, hk', hk0, hk12, hkf, hkd, hki, hemp, _, _, y, hy, hyn, hyi⟩ := R.old hk
    obtain ⟨hM1, hmv, hget⟩ := R.rem hk'
    rw [hk'] at hroom ⊢
    rw [hmv] at hroom ⊢
    generalize hT : remT t f r k held = t1 at *
    have hF1 := mayF hM1
    have hents1 : ∀ j, entsT t1 j = if j = f then cutE (entsT t f) r else if j = k then [] else entsT t j := by
      intro j
      unfold entsT; rw [hget]
      by_cases h1 : j = k
      · subst h1
        rw [if_pos rfl, if_neg hkf, if_pos rfl]
        unfold lessN; split
        · exact hemp
        · rfl
      · rw [if_neg h1]
        by_cases h2 : j = f
        · rw [if_pos h2, if_pos h2]
        · rw [if_neg h2, if_neg h2, if_neg h1]
    have hE1 : entsT (entT t1 d (cutE (entsT t1 d) n)) f = E1 t1 d n f := by rw [entT_ents (by rw [hF1.len]; omega)]; rfl
    rw [hE1] at hroom ⊢
    have hx1 : x ∈ entsT t1 d := by
      rw [hents1]
      by_cases h1 : d = f
      · subst h1
        rw [if_pos rfl]
        refine cut_mem.2 ⟨hx, fun e => hki ?_⟩
        have := ent_one hF hx hy (by rw [e, hyn])
        rw [this, hyi] at hxi; omega
      · rw [if_neg h1, if_neg (fun e => hkd e.symm)]; exact hx
    refine move_may hM1 hx1 hxn hxi hf ?_ R.Q.sole ?_ ?_ hroom
    · unfold kindT; rw [hget, if_neg (fun e => hkf e.symm), if_pos rfl]; exact R.Q.kind
    · intro hr
      refine R.no (reach_grow (fun p e he => ⟨e, ?_, rfl⟩) hr)
      rw [hents1] at he
      by_cases h1 : p = f
      · subst h1; rw [if_pos rfl] at he; exact (cut_mem.1 he).1
      · rw [if_neg h1] at he
        by_cases h2 : p = k
        · rw [if_pos h2] at he; cases he
        · rw [if_neg h2] at he; exact he
    · unfold E1
      by_cases h1 : f = d
      · rw [if_pos h1, hents1, if_pos h1.symm]
        refine has_false.2 fun e he => ?_
        have := (cut_mem.1 he).1
        exact (cut_mem.1 this).2
      · rw [if_neg h1, hents1, if_pos rfl]; exact cut_has _ _
  · have hmv : moveT t d n i f r (atI (entsT t f) r) held = entT t d (cutE (entsT t d) n) := by unfold moveT; rw [if_neg hk]
    rw [hmv] at hroom ⊢
    have hE1 : entsT (entT t d (cutE (entsT t d) n)) f = E1 t d n f := by rw [entT_ents (by omega)]; rfl
    rw [hE1] at hroom ⊢
    have hne := R.ne
    exact move_may R.P.may hx hxn hxi hf R.Q.kind R.Q.sole R.no (by rw [E1_has R.P R.Q (by rw [R.hi]; exact hne), decide_eq_false hk]) hroom
end
theorem rename_may {t u : Tre} {p q : ByteArray} {held : List Bool} (h : renameT t p q held = .ok u) : mayT u = true := by
  rcases ren_of h with ⟨rfl, _, _, _, _, _, _, P, _⟩ | ⟨d, n, ld, f, r, lf, i, R⟩
  · exact P.may
  · exact R.may
end Go.Proofs.YtdlgpolngnkiaaaGreatDoor

/- Steps of a script of calls on names; TreeMay. -/
namespace Go.Proofs.YtdlgpolngnkiaaaGreatDoor
open Go
structure Stp where
  do_ : Int
  n : Int
  path : ByteArray
  to_ : ByteArray
  held : List Bool
instance : Inhabited Stp := ⟨⟨0, 0, ⟨#[]⟩, ⟨#[]⟩, []⟩⟩
instance : Rep Stp where
  sz := 5
  pos := by decide
  rep V vs c := ∃ s : Sl, vs = [.int .i64 c.do_, .int .i64 c.n, .string c.path, .string c.to_, .slice s.a s.n s.c] ∧ inI .i64 c.n ∧ c.path.size ≤ 9223372036854775807 ∧ c.to_.size ≤ 9223372036854775807 ∧ SlR V s c.held
  len h := by obtain ⟨s, h, _⟩ := h; rw [h]; rfl
  one h := by obtain ⟨s, h, _⟩ := h; rw [h]; rfl
  mono hV h := let ⟨s, h, h0, h1, h2, h3⟩ := h; ⟨s, h, h0, h1, h2, h3.mono hV⟩
theorem SlR.stp {V : View} {s : Sl} {l : List Stp} (h : SlR V s l) {i : Nat} (hi : i < l.length) : ∃ ad y, s.a = some ad ∧ cellsAt V (ad.add (((i : Int)).toNat * 5)) [.int .i64 l[i].do_, .int .i64 l[i].n, .string l[i].path, .string l[i].to_, .slice y.a y.n y.c] ∧ inI .i64 l[i].n ∧ l[i].path.size ≤ 9223372036854775807 ∧ l[i].to_.size ≤ 9223372036854775807 ∧ SlR V y l[i].held := by
  have hn := h.n
  obtain ⟨ad, vs, hx, ha, hc, y, rfl, h1, h2, h3, h4⟩ := h.ld (x := (i : Int)) (by omega) (by omega)
  exact ⟨ad, y, ha, hc, h1, h2, h3, h4⟩
noncomputable def stepT (t : Tre) (c : Stp) : Except Int Tre :=
  if c.do_ = 0 then makesT t c.path 1 else if c.do_ = 1 then makesT t c.path 2 else if c.do_ = 2 then unlinkT t c.path c.held else if c.do_ = 3 then rmdirT t c.path else if c.do_ = 4 then renameT t c.path c.to_ c.held else if c.do_ = 5 then linkT t c.path c.to_ else dropT t c.n
theorem step_may {t u : Tre} {c : Stp} (h : stepT t c = .ok u) : mayT u = true := by
  unfold stepT at h
  repeat' split at h
  · exact makes_may (.inl rfl) h
  · exact makes_may (.inr rfl) h
  · exact unlink_may h
  · exact rmdir_may h
  · exact rename_may h
  · exact link_mayT h
  · exact drop_mayT h
theorem out_ret {V V' : View} {r : Value} {o : Except Int Tre} (h : outT V V' r o) : ∃ x : Sl, ∃ e : Int, r = .tuple ⟨[.agg ⟨[.slice x.a x.n x.c]⟩, .int .i64 e]⟩ ∧ outT V V' (.tuple ⟨[.agg ⟨[.slice x.a x.n x.c]⟩, .int .i64 e]⟩) o := by
  obtain ⟨⟨x, e, rfl, h1⟩, h2⟩ := h
  exact ⟨x, e, rfl, ⟨x, e, rfl, h1⟩, h2⟩
theorem does_ok {s y : Sl} {t : Tre} {c : Stp} {V : View} (h : SlR V s t) (hy : SlR V y c.held) (h1 : c.path.size ≤ 9223372036854775807) (h2 : c.to_.size ≤ 9223372036854775807) (hg : Glo V) : CallV Tryz.prog 8 ⟨[treV s, .agg ⟨[.int .i64 c.do_, .int .i64 c.n, .string c.path, .string c.to_, .slice y.a y.n y.c]⟩]⟩ V fun r V' => outT V V' r (stepT t c) := by
  refine f8_x ?_
  unfold f8_n
  intro _ _ _
  refine br_intro (fun b0 => ?_) (fun b0 => br_intro (fun b1 => ?_) (fun b1 => br_intro (fun b2 => ?_) (fun b2 => br_intro (fun b3 => ?_) (fun b3 => br_intro (fun b4 => ?_) (fun b4 => br_intro (fun b5 => ?_) (fun b5 => ?_))))))
  · have e : stepT t c = makesT t c.path 1 := by unfold stepT; rw [if_pos (of_decide_eq_true b0)]
    rw [e]; exact (create_ok h h1 hg).mono fun r V' hr => out_ret hr
  · have e : stepT t c = makesT t c.path 2 := by unfold stepT; rw [if_neg (of_decide_eq_false b0), if_pos (of_decide_eq_true b1)]
    rw [e]; exact (mkdir_ok h h1 hg).mono fun r V' hr => out_ret hr
  · have e : stepT t c = unlinkT t c.path c.held := by unfold stepT; rw [if_neg (of_decide_eq_false b0), if_neg (of_decide_eq_false b1), if_pos (of_decide_eq_true b2)]
    rw [e]; exact (unlink_ok h hy h1 hg).mono fun r V' hr => out_ret hr
  · have e : stepT t c = rmdirT t c.path := by unfold stepT; rw [if_neg (of_decide_eq_false b0), if_neg (of_decide_eq_false b1), if_neg (of_decide_eq_false b2), if_pos (of_decide_eq_true b3)]
    rw [e]; exact (rmdir_ok h h1 hg).mono fun r V' hr => out_ret hr
  · have e : stepT t c = renameT t c.path c.to_ c.held := by unfold stepT; rw [if_neg (of_decide_eq_false b0), if_neg (of_decide_eq_false b1), if_neg (of_decide_eq_false b2), if_neg (of_decide_eq_false b3), if_pos (of_decide_eq_true b4)]
    rw [e]; exact (rename_ok h hy h1 h2 hg).mono fun r V' hr => out_ret hr
  · have e : stepT t c = linkT t c.path c.to_ := by unfold stepT; rw [if_neg (of_decide_eq_false b0), if_neg (of_decide_eq_false b1), if_neg (of_decide_eq_false b2), if_neg (of_decide_eq_false b3), if_neg (of_decide_eq_false b4), if_pos (of_decide_eq_true b5)]
    rw [e]; exact (link_ok h h1 h2 hg).mono fun r V' hr => out_ret hr
  · have e : stepT t c = dropT t c.n := by unfold stepT; rw [if_neg (of_decide_eq_false b0), if_neg (of_decide_eq_false b1), if_neg (of_decide_eq_false b2), if_neg (of_decide_eq_false b3), if_neg (of_decide_eq_false b4), if_neg (of_decide_eq_false b5)]
    rw [e]; exact (drop_ok h).mono fun r V' hr => out_ret hr
theorem heavy_ok {s : Sl} {l : List Stp} {V : View} (h : SlR V s l) : CallV Tryz.prog 6 ⟨[.slice s.a s.n s.c]⟩ V fun r V' => ∃ x : Int, r = .int .i64 x ∧ 0 ≤ x ∧ (x = 0 → l.length ≤ 80) ∧ V' = V := by
  refine f6_x ?_
  unfold f6_n
  have hn := h.n
  refine loop1 (k := .int .i64) (fun (x : Int) V' => V' = V ∧ ∃ i : Nat, x = i ∧ i ≤ l.length ∧ i ≤ 80) (fun (x : Int) _ => l.length - x.toNat) ⟨rfl, 0, rfl, by omega, by omega⟩ ?_
  rintro (x : Int) V1 ⟨rfl, i, rfl, hi, h80⟩
  have hw : IntKind.wrap .i64 ((i : Int) + 1) = (i : Int) + 1 := wrap_of_in (inI64 (by omega) (by omega))
  refine br_intro (fun hlt => ?_) (fun hge => ⟨0, rfl, by omega, fun _ => by have := of_decide_eq_false hge; omega, rfl⟩)
  have hlt : i < l.length := by have := of_decide_eq_true hlt; omega
  obtain ⟨ad, y, ha, hc, _⟩ := h.stp hlt
  refine ⟨by omega, by omega, ad, ha, _, _, _, _, y, hc, fun _ => joinP_cut (fun q V' => V' = V1 ∧ (q.1 = false → i < 80)) (br_intro (fun hb => ⟨rfl, fun h => absurd h (by decide)⟩) (fun hb => ⟨rfl, fun _ => by have := of_decide_eq_false hb; omega⟩)) ?_⟩
  rintro ⟨q, ⟨⟩⟩ V2 ⟨rfl, hq⟩
  dsimp only [unc] at *
  rw [hw]
  exact br_intro (fun _ => ⟨_, rfl, by omega, fun h => by omega, rfl⟩) (fun hb => ⟨⟨rfl, i + 1, by omega, by omega, by have := hq hb; omega⟩, by omega⟩)
/-! ### the calls that every program must know -/
def T1 : Tre := (entT firstT 0 (insE (entsT firstT 0) ⟨ba [97], 1⟩)).set 1 (emptyN 2)
def T2 : Tre := (entT T1 1 (insE (entsT T1 1) ⟨ba [98], 2⟩)).set 2 (emptyN 1)
def T3 : Tre := (entT T2 0 (insE (entsT T2 0) ⟨ba [100], 2⟩)).set 2 { T2.getD 2 default with links := (T2.getD 2 default).links + 1 }
theorem makes_eq {t : Tre} {p s : ByteArray} {ld : List ByteArray} {d : Nat} {k i : Int} (P : Par t p ld d s) (h0 : ¬ 0 ≤ atI (entsT t d) s) (hf : idxI (fun n => decide (n.kind = 0)) t = i) (hi : ¬ i < 0) (hl : ¬ 10 ≤ (entsT t d).length) : makesT t p k = .ok ((entT t d (insE (entsT t d) ⟨s, i⟩)).set i.toNat (emptyN k)) := by
  have hf : freeT t = i := by unfold freeT; rw [if_pos P.may]; exact hf
  unfold makesT
  rw [P.eq]
  dsimp only
  rw [if_neg h0, hf, if_neg hi, if_neg hl]
theorem t1_eq : makesT firstT (ba [47, 97]) 2 = .ok T1 := makes_eq (ld := []) (d := 0) (s := ba [97]) (i := 1) ⟨mayT_first, by decide, rfl, rfl⟩ (by decide) (by decide) (by decide) (by decide)
theorem t1_may : mayT T1 = true := makes_may (.inr rfl) t1_eq
theorem t2_eq : makesT T1 (ba [47, 97, 47, 98]) 1 = .ok T2 := makes_eq (ld := [ba [97]]) (d := 1) (s := ba [98]) (i := 2) ⟨t1_may, by decide, rfl, rfl⟩ (by decide) (by decide) (by decide) (by decide)
theorem t2_may : mayT T2 = true := makes_may (.inl rfl) t2_eq
theorem t2_ren : renameT T2 (ba [47, 97]) (ba [47, 97, 47, 99]) [] = .error 17 := by
  have P : Par T2 (ba [47, 97]) [] 0 (ba [97]) := ⟨t2_may, by decide, rfl, rfl⟩
  have Q : Par T2 (ba [47, 97, 47, 99]) [ba [97]] 1 (ba [99]) := ⟨t2_may, by decide, rfl, rfl⟩
  have e1 : atI (entsT T2 0) (ba [97]) = ((1 : Nat) : Int) := by decide
  have e2 : atI (entsT T2 1) (ba [99]) = -1 := by decide
  unfold renameT
  rw [P.eq]; dsimp only
  rw [e1, if_neg (by decide), Q.eq]; dsimp only
  rw [e2, if_neg (by decide), if_pos]
  rw [insideT_iff t2_may (by decide) (by decide), metB_iff.2 .refl]; rfl
theorem t3_eq : linkT T2 (ba [47, 97, 47, 98]) (ba [47, 100]) = .ok T3 := by
  have P : Par T2 (ba [47, 97, 47, 98]) [ba [97]] 1 (ba [98]) := ⟨t2_may, by decide, rfl, rfl⟩
  have Q : Par T2 (ba [47, 100]) [] 0 (ba [100]) := ⟨t2_may, by decide, rfl, rfl⟩
  have e1 : findT T2 (ba [47, 97, 47, 98]) = .ok 2 := by rw [P.find]; rfl
  unfold linkT
  rw [e1]; dsimp only
  rw [if_neg (by decide), Q.eq]; dsimp only
  rw [if_neg (by decide), if_neg (by decide)]; rfl
theorem t3_may : mayT T3 = true := link_mayT t3_eq
theorem t3_rmdir : rmdirT T3 (ba [47, 97]) = .error 12 := by
  have P : Par T3 (ba [47, 97]) [] 0 (ba [97]) := ⟨t3_may, by decide, rfl, rfl⟩
  unfold rmdirT
  rw [P.eq]; dsimp only
  rw [if_neg (by decide), if_neg (by decide), if_pos (by decide)]
theorem awake19_ok {V : View} (hg : Glo V) : CallV Tryz.prog 7 ⟨[]⟩ V fun r V' => r = .bool true ∧ V.Le V' := by
  refine f7_x (_u := ()) ?_
  unfold f7_n
  refine first_ok.mono ?_
  rintro r V1 ⟨x, rfl, hx, hV1⟩
  refine ⟨x, rfl, (mkdir_ok (p := ba [47, 97]) hx (by decide) (hg.mono hV1)).mono ?_⟩
  rintro r V2 ⟨⟨x1, e1, rfl, h1⟩, hV2⟩
  rw [t1_eq] at h1
  obtain ⟨rfl, h1⟩ := h1
  have q2 := hV1.trans hV2
  refine ⟨x1, _, rfl, fun _ => (create_ok (p := ba [47, 97, 47, 98]) h1 (by decide) (hg.mono q2)).mono ?_⟩
  rintro r V3 ⟨⟨x2, e2, rfl, h2⟩, hV3⟩
  rw [t2_eq] at h2
  obtain ⟨rfl, h2⟩ := h2
  have q3 := q2.trans hV3
  refine ⟨x2, _, rfl, fun _ => (rename_ok (y := ⟨none, 0, 0⟩) (held := []) (p := ba [47, 97]) (q := ba [47, 97, 47, 99]) h2 (SlR.nil _ _ _) (by decide) (by decide) (hg.mono q3)).mono ?_⟩
  rintro r V4 ⟨⟨x3, e3, rfl, h3⟩, hV4⟩
  rw [t2_ren] at h3
  obtain ⟨rfl, _⟩ := h3
  have q4 := q3.trans hV4
  refine ⟨x3, _, rfl, fun _ => (link_ok (p := ba [47, 97, 47, 98]) (q := ba [47, 100]) (h2.mono hV4) (by decide) (by decide) (hg.mono q4)).mono ?_⟩
  rintro r V5 ⟨⟨x4, e4, rfl, h4⟩, hV5⟩
  rw [t3_eq] at h4
  obtain ⟨rfl, h4⟩ := h4
  have q5 := q4.trans hV5
  refine ⟨x4, _, rfl, fun _ => (rmdir_ok (p := ba [47, 97]) h4 (by decide) (hg.mono q5)).mono ?_⟩
  rintro r V6 ⟨⟨x5, e5, rfl, h5⟩, hV6⟩
  rw [t3_rmdir] at h5
  obtain ⟨rfl, _⟩ := h5
  have q6 := q5.trans hV6
  refine ⟨x5, _, rfl, fun _ => joinP_cut (fun q V' => q.1 = true ∧ V.Le V') (br_intro (fun _ => (mayT_ok (h4.mono hV6)).mono ?_) (fun h => absurd h (by decide))) ?_⟩
  · rintro r V7 ⟨rfl, hV7⟩
    exact ⟨_, rfl, t3_may, q6.trans hV7⟩
  · rintro ⟨q, ⟨⟩⟩ V7 ⟨h1, h2⟩
    dsimp only [unc] at *
    exact ⟨by rw [h1], h2⟩
theorem awake19J {V V0 : View} (hle : V0.Le V) (hg : Glo V) {Q : Bool → View → Prop} (hQ : ∀ V', V0.Le V' → Q true V') : CallV Tryz.prog 7 ⟨[]⟩ V fun r V' => ∃ x : Bool, r = .bool x ∧ Q x V' :=
  (awake19_ok hg).mono fun _ V' h => ⟨true, h.1, hQ V' (hle.trans h.2)⟩
end Go.Proofs.YtdlgpolngnkiaaaGreatDoor

/- Contracts of the reference's calls on names: paths, parents, entries. -/
namespace Go.Proofs.YtdlgpolngnkiaaaGreatDoor
open Go
theorem bl_ext (x : ByteArray) (a b : Nat) : bl (x.extract a b) = ((bl x).take b).drop a := by
  unfold bl
  rw [ByteArray.data_extract, Array.toList_extract]
  simp [List.take_drop]
  by_cases h : a ≤ b
  · rw [show a + (b - a) = b by omega]
  · rw [List.drop_of_length_le (by simp; omega), List.drop_of_length_le (by simp; omega)]
theorem drop_step {l : List UInt8} {i : Nat} (h : i < l.length) : l.drop i = l.getD i 0 :: l.drop (i + 1) := by
  rw [List.getD_eq_getElem?_getD, List.getElem?_eq_getElem h]
  exact (List.getElem_cons_drop (h := h)).symm
/-- How far a path is cut: the names so far; the rest is cut the same way. -/
structure CutI (r : List UInt8) (names : List ByteArray) (f i : Nat) : Prop where
  may : names.all mayB = true
  le : f ≤ i
  cut : (i ≤ r.length ∧ (splitS r).map ba = names ++ (splitS (r.drop f)).map ba ∧ 47 ∉ (r.drop f).take (i - f)) ∨ (i = r.length + 1 ∧ (splitS r).map ba = names)
theorem seg_end {r : List UInt8} {names : List ByteArray} {f : Nat} (h : CutI r names f r.length) : (splitS r).map ba = names ++ [ba (r.drop f)] := by
  rcases h.cut with ⟨_, h1, h2⟩ | ⟨h1, _⟩
  · rw [List.take_of_length_le (by simp)] at h2
    rw [h1, splitS_no h2]; rfl
  · omega
theorem seg_mid {r : List UInt8} {names : List ByteArray} {f i : Nat} (h : CutI r names f i) (hi : i < r.length) (h47 : r.getD i 0 = 47) : (splitS r).map ba = names ++ [ba ((r.take i).drop f)] ++ (splitS (r.drop (i + 1))).map ba := by
  have hle := h.le
  rcases h.cut with ⟨_, h1, h2⟩ | ⟨h1, _⟩
  · have e1 : r.drop f = (r.take i).drop f ++ 47 :: r.drop (i + 1) := by
      rw [← h47, ← drop_step hi, ← List.drop_append_of_le_length (by simp; omega), List.take_append_drop]
    have e2 : (r.take i).drop f = (r.drop f).take (i - f) := by rw [List.drop_take]
    rw [h1, e1, splitS_app, splitS_no (by rw [e2]; exact h2), List.map_append, ← List.append_assoc]; rfl
  · omega
theorem splitP_cons {s : ByteArray} {r : List UInt8} (h : bl s = 47 :: r) (hs : s.size ≤ 60) (hr : r ≠ []) : splitP s = if ((splitS r).map ba).all mayB then some ((splitS r).map ba) else none := by
  unfold splitP
  rw [h]
  dsimp only
  rw [if_pos ⟨rfl, hs⟩, if_neg hr]
theorem refSplit_ok {s : ByteArray} {V : View} (hs : s.size ≤ 9223372036854775807) : CallV Tryz.prog 89 ⟨[.string s]⟩ V fun r V' => splitR V' (splitP s) r ∧ V.Le V' := by
  refine f89_x ?_
  unfold f89_n
  have hlen := bl_len s
  refine joinP_cut (fun q V' => V' = V ∧ ((q.1 = true ∧ splitP s = none) ∨ (q.1 = false ∧ s.size ≤ 60 ∧ ∃ r, bl s = 47 :: r))) (br_intro (fun hb => ⟨rfl, .inl ⟨rfl, ?_⟩⟩) (fun hb => ?_)) ?_
  · cases hsp : splitP s with
    | none => rfl
    | some l =>
      have h1 := (splitP_some hsp).1
      have h2 := (splitP_some hsp).2.2
      have h3 := congrArg List.length h2
      rw [hlen, List.length_cons] at h3
      rw [decide_eq_false (by omega), decide_eq_false (by omega)] at hb
      cases hb
  · have h60 : ¬ 60 < (s.size : Int) := fun h => by rw [decide_eq_true h] at hb; cases hb
    rw [decide_eq_false h60] at hb
    have h1 : ¬ (s.size : Int) < 1 := fun h => by rw [decide_eq_true h] at hb; cases hb
    refine ⟨by omega, by omega, rfl, ?_⟩
    cases hbl : bl s with
    | nil => rw [hbl] at hlen; simp at hlen; omega
    | cons c r =>
      have e : (Array.toList s.data).getD (Int.toNat 0) 0 = c := by
        have : Array.toList s.data = c :: r := hbl
        rw [this]; rfl
      rw [e]
      by_cases hc : (c.toNat : Int) = 47
      · right
        have : c = 47 := UInt8.toNat_inj.1 (by show c.toNat = 47; omega)
        subst this
        exact ⟨by simp, by omega, r, rfl⟩
      · left
        refine ⟨by simp [hc], ?_⟩
        unfold splitP; rw [hbl]; dsimp only
        rw [if_neg]
        rintro ⟨rfl, _⟩
        exact hc rfl
  rintro ⟨q, ⟨⟩⟩ V1 ⟨rfl, hq⟩
  dsimp only [unc] at *
  refine br_intro (fun hb => ?_) (fun hb => ?_)
  · rcases hq with ⟨_, h⟩ | ⟨h, _⟩
    · rw [h]; exact ⟨⟨⟨none, 0, 0⟩, 7, rfl, rfl, rfl⟩, View.Le.refl _⟩
    · rw [h] at hb; cases hb
  obtain ⟨h60, r, hr⟩ : s.size ≤ 60 ∧ ∃ r, bl s = 47 :: r := by
    rcases hq with ⟨h, _⟩ | ⟨_, h⟩
    · rw [h] at hb; cases hb
    · exact h
  rw [hr, List.length_cons] at hlen
  refine br_intro (fun he => ?_) (fun he => ?_)
  · have he : s = ba [47] := of_decide_eq_true he
    rw [he, show splitP (ba [47]) = some [] by decide]
    exact ⟨⟨⟨none, 0, 0⟩, 0, rfl, rfl, SlR.nil _ _ _⟩, View.Le.refl _⟩
  have hrne : r ≠ [] := by
    rintro rfl
    apply of_decide_eq_false he
    exact bl_inj (by rw [hr])
  have hsp := splitP_cons hr h60 hrne
  have hbad : ∀ {names : List ByteArray} {x : ByteArray} {rest : List ByteArray}, (splitS r).map ba = names ++ [x] ++ rest → mayB x = false → splitP s = none := by
    intro names x rest h1 h2
    rw [hsp, h1, if_neg]
    simp [h2]
  refine loop3 (k := .sl) (l := .int .i64) (n := .int .i64) (fun (x : Sl) (f i : Int) V' => ∃ (fn jn : Nat) (names : List ByteArray) (cs : List Value), f = (fn : Int) + 1 ∧ i = (jn : Int) + 1 ∧ CutI r names fn jn ∧ names.length ≤ jn ∧ Buf V' x 9 (Rep.sz ByteArray) cs ∧ repL (V'.minus x) cs names ∧ V1.Le (V'.minus x)) (fun _ _ (i : Int) _ => s.size + 2 - i.toNat)
    ⟨0, 0, [], [], rfl, rfl, ⟨rfl, Nat.le_refl _, .inl ⟨Nat.zero_le _, rfl, by simp⟩⟩, Nat.le_refl _, Buf.nil _ _ _, rfl, View.Le.refl _⟩ ?_
  rintro (x : Sl) (f : Int) (i : Int) V2 ⟨fn, jn, names, cs, rfl, rfl, hC, hnl, hb2, hr2, hV2⟩
  have hle := hC.le
  refine br_intro (fun hlt => ?_) (fun hge => ?_)
  · have hlt : jn ≤ r.length := by have := of_decide_eq_true hlt; omega
    have hcut : 47 ∉ (r.drop fn).take (jn - fn) ∧ (splitS r).map ba = names ++ (splitS (r.drop fn)).map ba := by
      rcases hC.cut with ⟨_, h1, h2⟩ | ⟨h1, _⟩
      · exact ⟨h2, h1⟩
      · omega
    refine joinP_cut (fun q V' => ∃ (names : List ByteArray) (cs : List Value) (fn' : Nat), q.2.1 = (fn' : Int) + 1 ∧ CutI r names fn' (jn + 1) ∧ names.length ≤ jn + 1 ∧ Buf V' q.1 9 (Rep.sz ByteArray) cs ∧ repL (V'.minus q.1) cs names ∧ V1.Le (V'.minus q.1)) ?_ ?_
    · refine joinP_cut (fun q V' => V' = V2 ∧ q.1 = (decide (jn < r.length) && !decide (r.getD jn 0 = 47))) (br_intro (fun hs1 => ?_) (fun hs1 => ⟨rfl, ?_⟩)) ?_
      · have hs1 := of_decide_eq_true hs1
        refine ⟨by omega, by omega, rfl, ?_⟩
        have e : (Array.toList s.data).getD (Int.toNat ((jn : Int) + 1)) 0 = r.getD jn 0 := by
          have h1 : Array.toList s.data = 47 :: r := hr
          rw [h1, show Int.toNat ((jn : Int) + 1) = jn + 1 by omega]; rfl
        rw [e, decide_eq_true (show jn < r.length by omega), Bool.true_and]
        have e2 : decide (((r.getD jn 0).toNat : Int) = 47) = decide (r.getD jn 0 = 47) := decide_eq_decide.2 ⟨fun h => (UInt8.toNat_inj (a := r.getD jn 0) (b := 47)).1 (by show (r.getD jn 0).toNat = 47; omega), fun h => by rw [h]; rfl⟩
        show (!decide (((r.getD jn 0).toNat : Int) = 47)) = _
        rw [e2]
      · have hs1 := of_decide_eq_false hs1
        rw [decide_eq_false (show ¬ jn < r.length by omega)]; rfl
      rintro ⟨q, ⟨⟩⟩ V3 ⟨rfl, hq3⟩
      dsimp only [unc] at *
      refine br_intro (fun hq1 => ?_) (fun hq1 => ?_)
      · rw [hq3] at hq1
        simp only [Bool.and_eq_true, decide_eq_true_eq, Bool.not_eq_true', decide_eq_false_iff_not] at hq1
        refine ⟨names, cs, fn, rfl, ⟨hC.may, by omega, .inl ⟨by omega, hcut.2, ?_⟩⟩, by omega, hb2, hr2, hV2⟩
        rw [show jn + 1 - fn = (jn - fn) + 1 by omega, List.take_add_one]
        intro hm
        rcases List.mem_append.1 hm with hm | hm
        · exact hcut.1 hm
        · rw [List.getElem?_drop, show fn + (jn - fn) = jn by omega, List.getElem?_eq_getElem hq1.1] at hm
          apply hq1.2
          rw [List.getD_eq_getElem?_getD, List.getElem?_eq_getElem hq1.1]
          have hm : 47 = r[jn] := by simpa using hm
          exact hm.symm
      · have hseg : bl (s.extract (Int.toNat ((fn : Int) + 1)) (Int.toNat ((jn : Int) + 1))) = (r.take jn).drop fn := by
          rw [bl_ext, hr, show Int.toNat ((fn : Int) + 1) = fn + 1 by omega, show Int.toNat ((jn : Int) + 1) = jn + 1 by omega]; rfl
        have hsegE : s.extract (Int.toNat ((fn : Int) + 1)) (Int.toNat ((jn : Int) + 1)) = ba ((r.take jn).drop fn) := bl_inj hseg
        rw [hsegE]
        have hssz : (ba ((r.take jn).drop fn)).size ≤ 9223372036854775807 := by rw [ba_size, List.length_drop, List.length_take]; omega
        -- how the whole is cut here
        obtain ⟨rest, hall, hnext⟩ : ∃ rest, (splitS r).map ba = names ++ [ba ((r.take jn).drop fn)] ++ rest ∧ (mayB (ba ((r.take jn).drop fn)) = true → CutI r (names ++ [ba ((r.take jn).drop fn)]) (jn + 1) (jn + 1)) := by
          have hmay : mayB (ba ((r.take jn).drop fn)) = true → (names ++ [ba ((r.take jn).drop fn)]).all mayB = true := fun hm => by
            rw [List.all_append, hC.may]; simp [hm]
          by_cases hj : jn < r.length
          · have h47 : r.getD jn 0 = 47 := by
              rw [hq3, decide_eq_true hj, Bool.true_and] at hq1
              exact of_decide_eq_true (not_f hq1)
            exact ⟨_, seg_mid hC hj h47, fun hm => ⟨hmay hm, Nat.le_refl _, .inl ⟨by omega, seg_mid hC hj h47, by simp⟩⟩⟩
          · have hj : jn = r.length := by omega
            subst hj
            have := seg_end hC
            rw [List.take_length]
            exact ⟨[], by rw [this]; simp, fun hm => ⟨by rw [List.take_length] at hmay; exact hmay hm, Nat.le_refl _, .inr ⟨rfl, this⟩⟩⟩
        refine ⟨by omega, by omega, by omega, (refName_ok hssz).mono ?_⟩
        rintro r4 V4 ⟨rfl, rfl⟩
        refine ⟨_, rfl, br_intro (fun hm => ?_) (fun hm => ⟨by omega, by omega, by omega, fun r5 hr5 => ?_⟩)⟩
        · rw [hbad hall (not_t hm)]
          exact ⟨⟨⟨none, 0, 0⟩, 7, rfl, rfl, rfl⟩, hV2.trans (View.minus_le _ _)⟩
        · have hxn := hb2.n_eq (α := ByteArray) hr2
          refine app0 (α := ByteArray) (d := ba ((r.take jn).drop fn)) rfl hb2 hr2 ⟨rfl, hssz⟩ hV2 hr5 rfl (by show (x.n + 1) * 16 ≤ _; omega) (by show x.n + 1 ≤ _; omega) fun s6 V6 cs6 g1 g2 g3 => ⟨inI64 (by omega) (by omega), names ++ [ba ((r.take jn).drop fn)], cs6, jn + 1, by show (jn : Int) + 1 + 1 = ((jn + 1 : Nat) : Int) + 1; omega, hnext (not_f hm), by rw [List.length_append]; show names.length + 1 ≤ jn + 1; omega, g1, g2, g3⟩
    · rintro ⟨q1, q2, ⟨⟩⟩ V3 ⟨names', cs', fn', h1, h2, h3, h4, h5, h6⟩
      dsimp only [unc] at *
      refine ⟨inI64 (by omega) (by omega), ⟨fn', jn + 1, names', cs', h1, by omega, h2, h3, h4, h5, h6⟩, by omega⟩
  · have hge : r.length < jn := by have := of_decide_eq_false hge; omega
    have hfin : jn = r.length + 1 ∧ (splitS r).map ba = names := by
      rcases hC.cut with ⟨h, _⟩ | h
      · omega
      · exact h
    rw [hsp, hfin.2, if_pos hC.may]
    exact ⟨⟨x, 0, rfl, rfl, hb2.slR hr2 (View.minus_le _ _)⟩, hV2.trans (View.minus_le _ _)⟩
end Go.Proofs.YtdlgpolngnkiaaaGreatDoor

/- Contracts of the reference's calls on names: joined paths, parents, entries. -/
namespace Go.Proofs.YtdlgpolngnkiaaaGreatDoor
open Go
def flatP (l : List ByteArray) : List UInt8 := l.flatMap fun n => 47 :: bl n
theorem join_flat : ∀ {l : List ByteArray}, l ≠ [] → 47 :: Lib.join (l.map bl) [47] = flatP l
  | [], h => absurd rfl h
  | [x], _ => by
    simp [flatP, Lib.join_cons]
    rfl
  | x :: y :: l, _ => by
    have ih := join_flat (l := y :: l) (by simp)
    rw [List.map_cons, List.map_cons, join_cons2, ← List.map_cons, ih]
    simp [flatP]
theorem joinP1_eq {l : List ByteArray} (hl : l ≠ []) : joinP1 l = if l.all mayB = true ∧ (flatP l).length ≤ 60 then ba (flatP l) else ba [] := by
  unfold joinP1
  rw [join_flat hl]
  by_cases h : l.all mayB = true ∧ (flatP l).length ≤ 60
  · rw [if_pos h, if_pos]
    have := splitP_join h.1 (by have := h.2; rw [← join_flat hl, List.length_cons] at this; omega)
    rw [join_flat hl] at this; exact this
  · rw [if_neg h, if_neg]
    intro hs
    obtain ⟨h1, h2, _⟩ := splitP_some hs
    exact h ⟨h2, by rw [ba_size] at h1; exact h1⟩
theorem flatP_len : ∀ {l : List ByteArray}, l.all mayB = true → 2 * l.length ≤ (flatP l).length ∧ (flatP l).length ≤ 9 * l.length
  | [], _ => by simp [flatP]
  | x :: l, h => by
    rw [List.all_cons, Bool.and_eq_true] at h
    have ih := flatP_len h.2
    have hx := mayB_size h.1
    have e : flatP (x :: l) = (47 :: bl x) ++ flatP l := rfl
    rw [e]
    simp only [List.length_append, List.length_cons, bl_len]; omega
theorem flatP_snoc (l : List ByteArray) (x : ByteArray) : flatP (l ++ [x]) = flatP l ++ 47 :: bl x := by simp [flatP]
theorem refJoin_ok {x : Sl} {l : List ByteArray} {V : View} (h : SlR V x l) : CallV Tryz.prog 107 ⟨[.slice x.a x.n x.c]⟩ V fun r V' => r = .string (joinP1 l) ∧ V' = V := by
  refine f107_x ?_
  unfold f107_n
  have hn := h.n
  refine br_intro (fun h0 => ?_) (fun h0 => ?_)
  · have : l = [] := List.length_eq_zero_iff.1 (by have := of_decide_eq_true h0; omega)
    subst this
    exact ⟨rfl, rfl⟩
  have hl : l ≠ [] := fun e => by subst e; have := of_decide_eq_false h0; simp at hn; omega
  rw [joinP1_eq hl]
  refine loop2 (k := .str) (l := .int .i64) (fun (s : ByteArray) (j : Int) V' => V' = V ∧ ∃ i : Nat, j = i ∧ i ≤ l.length ∧ i ≤ 61 ∧ (l.take i).all mayB = true ∧ s = ba (flatP (l.take i))) (fun _ (j : Int) _ => l.length - j.toNat) ⟨rfl, 0, rfl, by omega, by omega, rfl, rfl⟩ ?_
  rintro (s : ByteArray) (j : Int) V1 ⟨rfl, i, rfl, hi, h61, hm, rfl⟩
  have hf := flatP_len hm
  rw [List.length_take] at hf
  refine br_intro (fun hlt => ?_) (fun hge => ?_)
  · have hlt : i < l.length := by have := of_decide_eq_true hlt; omega
    obtain ⟨ad, ha, hc, hsz⟩ := h.strN hlt
    have htk : l.take (i + 1) = l.take i ++ [l[i]] := by rw [List.take_add_one, List.getElem?_eq_getElem hlt]; rfl
    refine ⟨by omega, by omega, ad, ha, _, hc, (refName_ok hsz).mono ?_⟩
    rintro r V2 ⟨rfl, rfl⟩
    refine ⟨_, rfl, br_intro (fun hb => ⟨?_, rfl⟩) (fun hb => ?_)⟩
    · suffices hcc : ¬ (l.all mayB = true ∧ (flatP l).length ≤ 60) by rw [if_neg hcc]; rfl
      rintro ⟨h1, h2⟩
      have hmi : mayB l[i] = true := List.all_eq_true.1 h1 _ (List.getElem_mem hlt)
      rw [hmi] at hb
      have h3 := (flatP_len h1).1
      have := of_decide_eq_true (show decide (60 < (i : Int)) = true from hb)
      omega
    · have hmi : mayB l[i] = true := by
        cases hq : mayB l[i] with
        | true => rfl
        | false => rw [hq] at hb; cases hb
      rw [hmi] at hb
      have h60 := of_decide_eq_false (show decide (60 < (i : Int)) = false from hb)
      have hi8 := mayB_size hmi
      have e1 : (ByteArray.mk #[47] ++ l[i]).size = 1 + l[i].size := by rw [ByteArray.size_append]; rfl
      refine ⟨by omega, by rw [e1, ba_size]; omega, inI64 (by omega) (by omega), ⟨rfl, i + 1, by omega, by omega, by omega, ?_, ?_⟩, by omega⟩
      · rw [htk, List.all_append, hm]; simp [hmi]
      · rw [htk, flatP_snoc]
        apply bl_inj
        show bl (ba (flatP (l.take i)) ++ (ByteArray.mk #[47] ++ l[i])) = _
        rw [bl_append, bl_append]; rfl
  · have hge : i = l.length := by have := of_decide_eq_false hge; omega
    subst hge
    rw [List.take_length] at hm ⊢
    have hsz : (ba (flatP l)).size = (flatP l).length := ba_size _
    refine br_intro (fun hb => ⟨?_, rfl⟩) (fun hb => ⟨?_, rfl⟩)
    · have := of_decide_eq_true hb
      rw [if_neg (fun h => by have := h.2; omega)]; rfl
    · have := of_decide_eq_false hb
      rw [if_pos ⟨hm, by omega⟩]
theorem refLast_ok {s : ByteArray} {V : View} (hs : s.size ≤ 9223372036854775807) : CallV Tryz.prog 88 ⟨[.string s]⟩ V fun r V' => r = .tuple ⟨[.string (lastP s).1, .string (lastP s).2.1, .int .i64 (lastP s).2.2]⟩ ∧ V.Le V' := by
  refine f88_x ?_
  unfold f88_n
  refine (refSplit_ok hs).mono ?_
  rintro r V1 ⟨⟨x, e, rfl, hx⟩, hV1⟩
  refine ⟨x, e, rfl, ?_⟩
  cases hsp : splitP s with
  | none =>
    rw [hsp] at hx
    obtain ⟨rfl, rfl⟩ := hx
    have : lastP s = (ba [], ba [], 7) := by unfold lastP; rw [hsp]
    rw [this]
    exact br_intro (fun _ => ⟨rfl, hV1⟩) (fun h => absurd h (by decide))
  | some l =>
    rw [hsp] at hx
    obtain ⟨rfl, hx⟩ := hx
    have hn := hx.n; have hc := hx.c; have hlim := hx.lim
    refine br_intro (fun h => absurd h (by decide)) (fun _ => ?_)
    rcases nil_or_snoc l with rfl | ⟨m, n, rfl⟩
    · have : lastP s = (ba [], ba [], 18) := by unfold lastP; rw [hsp]; rfl
      rw [this]
      exact br_intro (fun _ => ⟨rfl, hV1⟩) (fun h => absurd (of_decide_eq_false h) (by rw [hn]; simp))
    · rw [last_of hsp]
      rw [List.length_append] at hn
      have hn : x.n = m.length + 1 := hn
      refine br_intro (fun h => absurd (of_decide_eq_true h) (by omega)) (fun _ => ?_)
      obtain ⟨ad, ha, hcell, hsz⟩ := hx.strN (i := m.length) (by simp)
      have e1 : (x.n : Int) - 1 = (m.length : Int) := by omega
      rw [e1]
      have htk := hx.take (j := m.length) (by simp)
      rw [List.take_left] at htk
      have esl : (⟨if x.c = 0 then x.a else x.a.map fun q => q.add 0, Int.toNat (m.length : Int) - 0, x.c - 0⟩ : Sl) = ⟨x.a, m.length, x.c⟩ := by
        rw [map_add_zero]; split <;> rfl
      have hsl : SlR V1 ⟨if x.c = 0 then x.a else x.a.map fun q => q.add 0, Int.toNat (m.length : Int) - 0, x.c - 0⟩ m := by rw [esl]; exact htk
      refine ⟨trivial, V1, View.Le.refl _, inI64 (by omega) (by omega), by omega, by omega, by omega, inI64 (by omega) (by omega), by omega, by omega, ad, ha, _, hcell, (refJoin_ok hsl).mono ?_⟩
      rintro r V2 ⟨rfl, rfl⟩
      refine ⟨_, rfl, View.Le.refl _, ?_, hV1⟩
      congr 4
      simp
theorem refGo_ok {s x : Sl} {t : Tre} {l : List ByteArray} {V : View} (h : SlR V s t) (k : SlR V x l) (h12 : t.length = 12) (hnode : ∀ n ∈ t, ∀ e ∈ n.ents, 1 ≤ e.node ∧ e.node < 12) : CallV Tryz.prog 90 ⟨[treV s, .slice x.a x.n x.c]⟩ V fun r V' => r = outF (goF t 0 l) ∧ V' = V := by
  refine f90_x ?_
  unfold f90_n
  have hn := h.n; have kn := k.n; have klim := k.lim
  refine fun _ => loop2 (k := .int .i64) (l := .int .i64) (fun (y : Int) (j : Int) V' => ∃ q i : Nat, y = q ∧ j = i ∧ q < 12 ∧ i ≤ l.length ∧ goF t 0 l = goF t q (l.drop i) ∧ V' = V) (fun _ (j : Int) _ => l.length - j.toNat) ⟨0, 0, rfl, rfl, by omega, by omega, rfl, rfl⟩ ?_
  rintro (y : Int) (j : Int) V1 ⟨q, i, rfl, rfl, hq, hi, hG, rfl⟩
  refine br_intro (fun hlt => ?_) (fun hge => ?_)
  · have hlt : i < l.length := by have := of_decide_eq_true hlt; omega
    obtain ⟨ad, ha, hc, hsz⟩ := k.strN hlt
    obtain ⟨ad2, sq, en, ha2, hc2, hN⟩ := h.nodN (i := q) (by omega)
    have hd : l.drop i = l[i] :: l.drop (i + 1) := (List.getElem_cons_drop (h := hlt)).symm
    rw [hd, goF_cons] at hG
    refine ⟨by omega, by omega, ad, ha, _, hc, by omega, by omega, ad2, ha2, _, cellsAt_nth hc2 0 rfl, br_intro (fun hb => ?_) (fun hb => ⟨by omega, by omega, ad2, ha2, en, cellsAt_nth hc2 4 rfl, (refAt_ok hN.ents).mono ?_⟩)⟩
    · have hb : ¬ kindT t q = 2 := of_decide_eq_false (not_t hb)
      rw [if_neg hb] at hG
      rw [hG]; exact ⟨rfl, rfl⟩
    · have hb : kindT t q = 2 := of_decide_eq_true (not_f hb)
      rw [if_pos hb] at hG
      rintro r V2 ⟨rfl, rfl⟩
      have hr := atI_range (s := l[i]) (hnode _ (getD_mem (t := t) (i := q) (by omega)))
      refine ⟨_, rfl, br_intro (fun h0 => ?_) (fun h0 => ?_)⟩
      · have h0 := of_decide_eq_true h0
        rw [if_pos (show atI (entsT t q) l[i] < 0 from h0)] at hG
        rw [hG]; exact ⟨rfl, rfl⟩
      · have h0 := of_decide_eq_false h0
        rw [if_neg (show ¬ atI (entsT t q) l[i] < 0 from h0)] at hG
        exact ⟨inI64 (by omega) (by omega), ⟨(atI (entsT t q) l[i]).toNat, i + 1, by unfold entsT; omega, by omega, by unfold entsT; omega, by omega, hG, rfl⟩, by omega⟩
  · have hge : i = l.length := by have := of_decide_eq_false hge; omega
    subst hge
    rw [List.drop_length] at hG
    rw [hG]; exact ⟨rfl, rfl⟩
theorem refFind_ok {s : Sl} {t : Tre} {p : ByteArray} {V : View} (h : SlR V s t) (hp : p.size ≤ 9223372036854775807) : CallV Tryz.prog 65 ⟨[treV s, .string p]⟩ V fun r V' => r = outF (findT t p) ∧ V.Le V' := by
  refine f65_x ?_
  unfold f65_n
  refine fun _ => (mayTree_ok h).mono ?_
  rintro r V1 ⟨rfl, hV1⟩
  unfold findT
  refine ⟨_, rfl, br_intro (fun hb => ⟨by rw [if_neg (by rw [not_t hb]; decide)]; rfl, hV1⟩) (fun hb => ?_)⟩
  have hM := not_f hb
  rw [if_pos hM]
  refine (refSplit_ok hp).mono ?_
  rintro r V2 ⟨⟨x, e, rfl, hx⟩, hV2⟩
  have hV02 := hV1.trans hV2
  refine ⟨x, e, rfl, ?_⟩
  cases hS : splitP p with
  | none =>
    rw [hS] at hx
    obtain ⟨rfl, rfl⟩ := hx
    exact br_intro (fun _ => ⟨rfl, hV02⟩) (fun h => absurd h (by decide))
  | some l =>
    rw [hS] at hx
    obtain ⟨rfl, hx⟩ := hx
    refine br_intro (fun h => absurd h (by decide)) (fun _ => (refGo_ok (h.mono hV02) hx (mayT_all hM).1 (mayT_node hM)).mono ?_)
    rintro r V3 ⟨rfl, rfl⟩
    show ∃ _ _, outF _ = _ ∧ _
    cases hG : goF t 0 l with
    | ok q => exact ⟨_, _, rfl, by simp only [hG]; rfl, hV02⟩
    | error e => exact ⟨_, _, rfl, by simp only [hG]; rfl, hV02⟩
theorem refParent_ok {s : Sl} {t : Tre} {p : ByteArray} {V : View} (h : SlR V s t) (hp : p.size ≤ 9223372036854775807) : CallV Tryz.prog 58 ⟨[treV s, .string p]⟩ V fun r V' => r = outP (parentT t p) ∧ V.Le V' := by
  refine f58_x ?_
  unfold f58_n
  refine fun _ => (mayTree_ok h).mono ?_
  rintro r V1 ⟨rfl, hV1⟩
  refine ⟨_, rfl, br_intro (fun hb => ⟨by unfold parentT; rw [if_neg (by rw [not_t hb]; decide)]; rfl, hV1⟩) (fun hb => ?_)⟩
  have hM := not_f hb
  have h12 := (mayT_all hM).1
  have hn := h.n
  refine (refLast_ok hp).mono ?_
  rintro r V2 ⟨rfl, hV2⟩
  have q2 := hV1.trans hV2
  refine ⟨_, _, _, rfl, br_intro (fun hc => ⟨?_, q2⟩) (fun hc => ?_)⟩
  · have hc : ¬ (lastP p).2.2 = 0 := of_decide_eq_false (not_t hc)
    unfold parentT; rw [if_pos hM, if_neg hc]; rfl
  have hc : (lastP p).2.2 = 0 := of_decide_eq_true (not_f hc)
  have hsp : ∃ l n, splitP p = some (l ++ [n]) := by
    unfold lastP at hc
    split at hc
    · exact absurd hc (by decide)
    · rename_i l hl
      rcases nil_or_snoc l with rfl | ⟨m, n, rfl⟩
      · simp at hc
      · exact ⟨m, n, hl⟩
  obtain ⟨l, n, hl⟩ := hsp
  have hlast := last_of hl
  have hsl := split_drop hl
  have hE : parentT t p = match goF t 0 l with
      | .error e => .error e
      | .ok i => if kindT t i = 2 then .ok (i, n) else .error 11 := by
    unfold parentT
    rw [if_pos hM, if_pos hc, hlast]
    dsimp only
    rw [find_of hM hsl] <;> rfl
  rw [hlast]
  dsimp only
  refine (refSplit_ok (s := joinP1 l) (by have := (splitP_some hsl).1; omega)).mono ?_
  rintro r V3 ⟨⟨x, e, rfl, hx⟩, hV3⟩
  rw [hsl] at hx
  obtain ⟨rfl, hx⟩ := hx
  have q3 := q2.trans hV3
  refine ⟨x, _, rfl, (refGo_ok (h.mono q3) hx h12 (mayT_node hM)).mono ?_⟩
  rintro r V4 ⟨rfl, rfl⟩
  cases hG : goF t 0 l with
  | error e =>
    rw [hG] at hE
    have hE : parentT t p = .error e := hE
    have he := par_err hE
    exact ⟨_, _, rfl, br_intro (fun _ => ⟨by rw [hE]; rfl, q3⟩) (fun h => absurd (of_decide_eq_true (not_f h)) he)⟩
  | ok d =>
    rw [hG] at hE
    have hE : parentT t p = if kindT t d = 2 then .ok (d, n) else .error 11 := hE
    have hd := goF_range h12 (mayT_node hM) (by omega) hG
    obtain ⟨ad, sq, en, ha, hcc, hN⟩ := (h.mono q3).nodN (i := d) (by omega)
    refine ⟨_, _, rfl, br_intro (fun h => absurd h (by decide)) (fun _ => ⟨by omega, by omega, ad, ha, _, cellsAt_nth hcc 0 rfl, br_intro (fun hk => ⟨?_, q3⟩) (fun hk => ⟨?_, q3⟩)⟩)⟩
    · rw [hE, if_neg (show ¬ kindT t d = 2 from of_decide_eq_false (not_t hk))]; rfl
    · rw [hE, if_pos (show kindT t d = 2 from of_decide_eq_true (not_f hk))]; rfl
theorem refFree_ok {s : Sl} {t : Tre} {V : View} (h : SlR V s t) : CallV Tryz.prog 86 ⟨[treV s]⟩ V fun r V' => r = .int .i64 (freeT t) ∧ V.Le V' := by
  refine f86_x ?_
  unfold f86_n
  refine fun _ => (mayTree_ok h).mono ?_
  rintro r V1 ⟨rfl, hV1⟩
  unfold freeT
  refine ⟨_, rfl, br_intro (fun hb => ⟨by rw [if_neg (by rw [not_t hb]; decide)], hV1⟩) (fun hb => ?_)⟩
  rw [if_pos (not_f hb)]
  have hn := h.n; have hlim := h.lim
  refine loop1 (k := .int .i64) (fun (x : Int) V' => V' = V1 ∧ 0 ≤ x ∧ x ≤ s.n ∧ ∀ j (hj : j < t.length), (j : Int) < x → decide (t[j].kind = 0) = false) (fun (x : Int) _ => s.n - x.toNat) ⟨rfl, by omega, by omega, fun j _ hj => by omega⟩ ?_
  rintro (x : Int) V2 ⟨rfl, h0, h1, h2⟩
  refine br_intro (fun hlt => ?_) (fun hge => ?_)
  · have hlt : x < s.n := by simpa using hlt
    obtain ⟨ad, sq, en, hx, ha, hc, hN⟩ := (h.mono hV1).nod h0 hlt
    refine ⟨h0, hlt, ad, ha, _, _, _, sq, en, hc, fun _ => br_intro (fun hk => ⟨?_, hV1⟩) (fun hk => ⟨inI64 (by omega) (by omega), ⟨rfl, by omega, by omega, fun j hj hjx => ?_⟩, by omega⟩)⟩
    · rw [idxI_first (fun n : Nod => decide (n.kind = 0)) t x.toNat hx (fun j hj => h2 j (by omega) (by omega)) hk]
      congr 1; omega
    · by_cases e : (j : Int) < x
      · exact h2 j hj e
      · have : j = x.toNat := by omega
        subst this; exact hk
  · have hge : ¬ x < s.n := by simpa using hge
    refine ⟨?_, hV1⟩
    rw [idxI_none (fun n : Nod => decide (n.kind = 0)) t fun y hy => ?_]
    obtain ⟨j, hj, rfl⟩ := List.getElem_of_mem hy
    exact h2 j hj (by omega)
theorem refIsHeld_ok {y : Sl} {held : List Bool} {i : Nat} {V : View} (h : SlR V y held) : CallV Tryz.prog 92 ⟨[.slice y.a y.n y.c, .int .i64 i]⟩ V fun r V' => r = .bool (heldB held i) ∧ V' = V := by
  refine f92_x ?_
  unfold f92_n
  have hn := h.n
  refine joinP_cut (fun q V' => V' = V ∧ q.1 = heldB held i) (br_intro (fun hb => ?_) (fun hb => ⟨rfl, ?_⟩)) ?_
  · rw [decide_eq_true (show (0 : Int) ≤ i by omega)] at hb
    have hlt := of_decide_eq_true (show decide ((i : Int) < y.n) = true from hb)
    obtain ⟨ad3, hx3, ha3, hc3⟩ := h.bool (x := (i : Int)) (by omega) (by omega)
    refine ⟨by omega, by omega, ad3, ha3, _, hc3, rfl, ?_⟩
    unfold heldB
    have e : ((i : Int)).toNat = i := by omega
    rw [List.getD_eq_getElem?_getD, List.getElem?_eq_getElem (by omega)]
    simp only [e]; rfl
  · rw [decide_eq_true (show (0 : Int) ≤ i by omega)] at hb
    have hge := of_decide_eq_false (show decide ((i : Int) < y.n) = false from hb)
    unfold heldB
    rw [List.getD_eq_getElem?_getD, List.getElem?_eq_none (by omega)]; rfl
  · rintro ⟨q, ⟨⟩⟩ V1 ⟨rfl, hq⟩
    dsimp only [unc] at *
    exact ⟨by rw [hq], rfl⟩
end Go.Proofs.YtdlgpolngnkiaaaGreatDoor

/- Contracts of the reference's calls on names: entries, and what is made. -/
namespace Go.Proofs.YtdlgpolngnkiaaaGreatDoor
open Go
theorem OwnT.call {P : Program} {f : FuncId} {args : Array Value} {V0 V : View} {x : Sl} {t : Tre} {K : Value → View → Prop} (h : OwnT V0 V x t) (hc : CallV P f args (V.minus x) fun r U' => K r U' ∧ (V.minus x).Le U') :
    CallV P f args V fun r V' => ∃ U', K r U' ∧ U'.Le (V'.minus x) ∧ V.Le V' ∧ OwnT V0 V' x t := by
  obtain ⟨cs, hB, _, _⟩ := id h
  refine (CallV.besideG hB hc).mono ?_
  rintro r V' ⟨U', h1, _, h2, h3⟩
  exact ⟨U', h1, h2, h3, h.mono h3⟩
/-- Entries of one's own. -/
def OwnE (V0 V : View) (x : Sl) (l : List Ent) : Prop := ∃ cs, Buf V x 58 (Rep.sz Ent) cs ∧ repL (V.minus x) cs l ∧ V0.Le (V.minus x)
theorem OwnE.nil (V : View) : OwnE V V ⟨none, 0, 0⟩ [] := ⟨[], Buf.nil _ _ _, rfl, View.Le.refl _⟩
theorem OwnE.slR {V0 V : View} {x : Sl} {l : List Ent} (h : OwnE V0 V x l) : SlR V x l ∧ V0.Le V := by
  obtain ⟨cs, h1, h2, h3⟩ := h
  exact ⟨h1.slR h2 (View.minus_le _ _), h3.trans (View.minus_le _ _)⟩
theorem OwnE.row {V0 V : View} {x y : Sl} {l m : List Ent} {C : Sl → View → Prop} (h : OwnE V0 V x l) (hy : SlR V0 y m) (hlen : l.length + m.length ≤ 1000) (hC : ∀ s V', OwnE V0 V' s (l ++ m) → C s V') : apV V 58 2 24 [.string (ba []), .int .i64 0] x (.slice y.a y.n y.c) C := by
  obtain ⟨cs, h1, h2, h3⟩ := h
  exact appRow (α := Ent) rfl h1 h2 (hy.mono h3) h3 (by omega) (by omega) fun s V' cs' a b c => hC s V' ⟨cs', a, b, c⟩
theorem OwnE.one {V0 V : View} {x : Sl} {l : List Ent} {e : Ent} {r : Nat} {C : Sl → View → Prop} (h : OwnE V0 V x l) (hr : V.size ≤ r) (hs : e.name.size ≤ 9223372036854775807) (hi : inI .i64 e.node) (hlen : l.length ≤ 1000) (hC : ∀ s V', OwnE V0 V' s (l ++ [e]) → C s V') :
    apV (V.put r (.cells ⟨[.string e.name, .int .i64 e.node]⟩ 58 (0, 0))) 58 2 24 [.string (ba []), .int .i64 0] x (.slice (some ⟨r, 0, none⟩) 1 1) C := by
  obtain ⟨cs, h1, h2, h3⟩ := h
  have hn := h1.n_eq (α := Ent) h2
  exact app0 (α := Ent) (d := e) rfl h1 h2 ⟨rfl, hs, hi⟩ h3 hr rfl (by omega) (by omega) fun s V' cs' a b c => hC s V' ⟨cs', a, b, c⟩
theorem refWith_ok {V : View} {x : Sl} {l : List Ent} {s : ByteArray} {i : Int} (h : SlR V x l) (hs : s.size ≤ 9223372036854775807) (hi : inI .i64 i) : CallV Tryz.prog 64 ⟨[.slice x.a x.n x.c, .string s, .int .i64 i]⟩ V fun r V' => outE V' r (withE l ⟨s, i⟩) ∧ V.Le V' := by
  refine f64_x ?_
  unfold f64_n
  have hn := h.n; have hc := h.c
  refine joinP_cut (fun q V' => V' = V ∧ q.1 = !(mayL l && soleE ⟨s, i⟩)) ((refL_ok h).mono ?_) ?_
  · rintro r V1 ⟨rfl, rfl⟩
    refine ⟨_, rfl, br_intro (fun hb => ⟨rfl, by rw [not_t hb]; rfl⟩) (fun hb => (refName_ok hs).mono ?_)⟩
    rintro r V2 ⟨rfl, rfl⟩
    refine ⟨_, rfl, rfl, ?_⟩
    rw [not_f hb]
    unfold soleE
    show _ = !(true && (mayB s && decide (1 ≤ i) && decide (i < 12)))
    have e1 : decide (i < 1) = !decide (1 ≤ i) := by
      by_cases h : 1 ≤ i
      · rw [decide_eq_true h, decide_eq_false (by omega)]; rfl
      · rw [decide_eq_false h, decide_eq_true (by omega)]; rfl
    have e2 : decide (12 ≤ i) = !decide (i < 12) := by
      by_cases h : i < 12
      · rw [decide_eq_true h, decide_eq_false (by omega)]; rfl
      · rw [decide_eq_false h, decide_eq_true (by omega)]; rfl
    rw [e1, e2]
    cases mayB s <;> cases decide (1 ≤ i) <;> cases decide (i < 12) <;> rfl
  rintro ⟨q, ⟨⟩⟩ V1 ⟨rfl, hq⟩
  dsimp only [unc] at *
  unfold withE
  refine br_intro (fun hb => ?_) (fun hb => ?_)
  · rw [hq] at hb
    rw [if_neg (by rw [not_t hb]; decide)]
    exact ⟨⟨⟨none, 0, 0⟩, 1, rfl, rfl, SlR.nil _ _ _⟩, View.Le.refl _⟩
  have hM : (mayL l && soleE ⟨s, i⟩) = true := by rw [hq] at hb; exact not_f hb
  have hM1 : mayL l = true := by rw [Bool.and_eq_true] at hM; exact hM.1
  have hlen := mayL_len hM1
  rw [if_pos hM]
  refine (refAt_ok h).mono ?_
  rintro r V2 ⟨rfl, rfl⟩
  refine ⟨_, rfl, ?_⟩
  rw [at_has (mayL_pos hM1)]
  refine br_intro (fun hb => ?_) (fun hb => ?_)
  · rw [if_pos hb]
    exact ⟨⟨⟨none, 0, 0⟩, 9, rfl, rfl, SlR.nil _ _ _⟩, View.Le.refl _⟩
  rw [if_neg (by rw [hb]; decide)]
  refine br_intro (fun hb => ?_) (fun hb => ?_)
  · rw [if_pos (show 10 ≤ l.length by have := of_decide_eq_true hb; omega)]
    exact ⟨⟨⟨none, 0, 0⟩, 14, rfl, rfl, SlR.nil _ _ _⟩, View.Le.refl _⟩
  rw [if_neg (show ¬ 10 ≤ l.length by have := of_decide_eq_false hb; omega)]
  refine loop1 (k := .int .i64) (fun (y : Int) V' => V' = V2 ∧ 0 ≤ y ∧ y ≤ l.length ∧ ∀ e ∈ l.take y.toNat, sLess e.name s = true) (fun (y : Int) _ => l.length - y.toNat) ⟨rfl, by omega, by omega, by simp⟩ ?_
  rintro (y : Int) V3 ⟨rfl, h0, h1, h2⟩
  refine joinP_cut (fun q V' => V' = V3 ∧ ((q.1 = true ∧ ∃ hx : y.toNat < l.length, sLess l[y.toNat].name s = true) ∨ (q.1 = false ∧ ∀ hx : y.toNat < l.length, sLess l[y.toNat].name s = false))) (br_intro (fun hlt => ?_) (fun hge => ?_)) ?_
  · have hlt : y < x.n := by simpa using hlt
    obtain ⟨ad, hx, ha, hcc, _⟩ := h.ent h0 hlt
    refine ⟨h0, hlt, ad, ha, l[y.toNat].name, hcc 0 _ rfl, rfl, ?_⟩
    cases hq : sLess l[y.toNat].name s with
    | true => exact .inl ⟨rfl, hx, hq⟩
    | false => exact .inr ⟨rfl, fun _ => hq⟩
  · have hge : ¬ y < x.n := by simpa using hge
    exact ⟨rfl, .inr ⟨rfl, fun hx => by omega⟩⟩
  · rintro ⟨q, ⟨⟩⟩ V4 ⟨rfl, hJ⟩
    dsimp only [unc] at *
    refine br_intro (fun hq => ?_) (fun hq => ?_)
    · subst hq
      rcases hJ with ⟨_, hx, hl⟩ | ⟨hf, _⟩
      · refine ⟨inI64 (by omega) (by omega), ⟨rfl, by omega, by omega, ?_⟩, by omega⟩
        rw [show (y + 1).toNat = y.toNat + 1 by omega, List.take_add_one, List.getElem?_eq_getElem hx]
        intro p hp
        rcases List.mem_append.1 hp with hp | hp
        · exact h2 p hp
        · simp at hp; rw [hp]; exact hl
      · cases hf
    · subst hq
      have hl : ∀ hx : y.toNat < l.length, sLess l[y.toNat].name s = false := by
        rcases hJ with ⟨hf, _⟩ | ⟨_, h6⟩
        · cases hf
        · exact h6
      obtain ⟨e1, e2⟩ := tw_split h2 hl
      have ef : insE l ⟨s, i⟩ = ([] ++ l.take y.toNat) ++ [(⟨s, i⟩ : Ent)] ++ l.drop y.toNat := by
        unfold insE
        dsimp only
        rw [e1, e2]; simp
      have s1 : SlR V4 ⟨if x.c = 0 then x.a else x.a.map fun q => q.add 0, y.toNat - 0, x.c - 0⟩ (l.take y.toNat) := by
        have := h.sub (i := 0) (j := y.toNat) (Nat.zero_le _) (by omega)
        rw [List.drop_zero] at this; exact this
      have s3 : SlR V4 ⟨if x.c = y.toNat then x.a else x.a.map fun q => q.add (y.toNat * 2), (x.n : Int).toNat - y.toNat, x.c - y.toNat⟩ (l.drop y.toNat) := by
        have := h.sub (i := y.toNat) (j := l.length) (by omega) (Nat.le_refl _)
        rw [List.take_length] at this
        rw [show (x.n : Int).toNat = l.length by omega]; exact this
      refine joinP_cut (fun q V' => q.2.1 = 0 ∧ SlR V' q.1 (insE l ⟨s, i⟩) ∧ V4.Le V') ⟨trivial, Int.le_refl _, h0, by omega, h0, by omega, by omega, ?_, ?_⟩ ?_
      · refine (OwnE.nil V4).row s1 (by simp; omega) fun s4 V5 g1 r hr => ?_
        refine g1.one (e := ⟨s, i⟩) hr hs hi (by simp; omega) fun s5 V6 g2 => ?_
        refine g2.row s3 (by simp; omega) fun s6 V7 g3 => ⟨rfl, ?_, g3.slR.2⟩
        rw [ef]; exact g3.slR.1
      · intro r hr
        have f1 := View.see_none_of_ge hr
        have p1 := View.put_le (o := .cells ⟨[.string s, .int .i64 i]⟩ 58 (0, 0)) f1
        have s2 : SlR (V4.put r (.cells ⟨[.string s, .int .i64 i]⟩ 58 (0, 0))) ⟨some ⟨r, 0, none⟩, 1, 1⟩ [(⟨s, i⟩ : Ent)] :=
          slR_block (l := [(⟨s, i⟩ : Ent)]) (W := V4) (View.see_put_same _ _ _) ⟨[.string s, .int .i64 i], [], rfl, ⟨rfl, hs, hi⟩, rfl⟩ p1 (show 1 ≤ 140737488355328 by decide)
        refine (OwnE.nil _).row (s1.mono p1) (by simp; omega) fun s4 V5 g1 => ?_
        refine g1.row (y := ⟨some ⟨r, 0, none⟩, 1, 1⟩) s2 (by simp; omega) fun s5 V6 g2 => ?_
        refine g2.row (s3.mono p1) (by simp; omega) fun s6 V7 g3 => ⟨rfl, ?_, p1.trans g3.slR.2⟩
        rw [ef]; exact g3.slR.1
      · rintro ⟨z, e, ⟨⟩⟩ V5 ⟨g1, g2, g3⟩
        dsimp only [unc] at *
        subst g1
        exact ⟨⟨z, 0, rfl, rfl, g2⟩, g3⟩
theorem cut_snoc (l : List Ent) (e : Ent) (s : ByteArray) : cutE (l ++ [e]) s = if e.name = s then cutE l s else cutE l s ++ [e] := by
  unfold cutE
  rw [List.filter_append]
  by_cases h : e.name = s
  · rw [if_pos h, List.filter_cons_of_neg (by simp [h])]; simp
  · rw [if_neg h, List.filter_cons_of_pos (by simp [h])]; rfl
theorem refWithout_ok {V : View} {x : Sl} {l : List Ent} {s : ByteArray} (h : SlR V x l) : CallV Tryz.prog 61 ⟨[.slice x.a x.n x.c, .string s]⟩ V fun r V' => outE V' r (withoutE l s) ∧ V.Le V' := by
  refine f61_x ?_
  unfold f61_n
  have hn := h.n; have hc := h.c
  refine (refL_ok h).mono ?_
  rintro r V1 ⟨rfl, rfl⟩
  unfold withoutE
  refine ⟨_, rfl, br_intro (fun hb => ?_) (fun hb => ?_)⟩
  · rw [if_neg (by rw [not_t hb]; decide)]
    exact ⟨⟨⟨none, 0, 0⟩, 1, rfl, rfl, SlR.nil _ _ _⟩, View.Le.refl _⟩
  have hM := not_f hb
  have hlen := mayL_len hM
  rw [if_pos hM]
  refine (refAt_ok h).mono ?_
  rintro r V2 ⟨rfl, rfl⟩
  have hi := at_has (mayL_pos hM) s
  refine ⟨_, rfl, br_intro (fun hb => ?_) (fun hb => ?_)⟩
  · rw [decide_eq_false (by have := of_decide_eq_true hb; omega)] at hi
    rw [if_neg (by rw [← hi]; decide)]
    exact ⟨⟨⟨none, 0, 0⟩, 8, rfl, rfl, SlR.nil _ _ _⟩, View.Le.refl _⟩
  rw [decide_eq_true (by have := of_decide_eq_false hb; omega)] at hi
  rw [if_pos hi.symm]
  refine loop2 (k := .sl) (l := .int .i64) (fun (z : Sl) (j : Int) V' => ∃ k : Nat, j = k ∧ k ≤ l.length ∧ OwnE V2 V' z (cutE (l.take k) s)) (fun _ (j : Int) _ => l.length - j.toNat) ⟨0, rfl, by omega, OwnE.nil _⟩ ?_
  rintro (z : Sl) (j : Int) V3 ⟨k, rfl, hk, hO⟩
  have hle := hO.slR.2
  have hcl := cut_len (l.take k) s
  rw [List.length_take] at hcl
  refine br_intro (fun hlt => ?_) (fun hge => ?_)
  · have hlt : k < l.length := by have := of_decide_eq_true hlt; omega
    obtain ⟨ad, ha, hcc, hsz, hin⟩ := (h.mono hle).entN hlt
    rw [getD_at hlt] at hcc hsz hin
    have htk : l.take (k + 1) = l.take k ++ [l[k]] := by rw [List.take_add_one, List.getElem?_eq_getElem hlt]; rfl
    refine ⟨by omega, by omega, ad, ha, _, _, hcc, fun _ => joinP_cut (fun q V' => OwnE V2 V' q.1 (cutE (l.take (k + 1)) s)) (br_intro (fun hb => ?_) (fun hb => ?_)) ?_⟩
    · have hb : ¬ l[k].name = s := of_decide_eq_false (not_t hb)
      intro r hr
      refine hO.one (e := l[k]) hr hsz hin (by omega) fun s5 V6 g2 => ?_
      rw [htk, cut_snoc, if_neg hb]; exact g2
    · have hb : l[k].name = s := of_decide_eq_true (not_f hb)
      rw [htk, cut_snoc, if_pos hb]; exact hO
    · rintro ⟨q, ⟨⟩⟩ V4 hq
      dsimp only [unc] at *
      exact ⟨inI64 (by omega) (by omega), ⟨k + 1, by omega, by omega, hq⟩, by omega⟩
  · have hge : k = l.length := by have := of_decide_eq_false hge; omega
    subst hge
    rw [List.take_length] at hO
    exact ⟨⟨z, 0, rfl, rfl, hO.slR.1⟩, hle⟩
theorem refEmpty_ok {k : Int} {V : View} : CallV Tryz.prog 87 ⟨[.int .i64 k]⟩ V fun r V' => (∃ s e : Sl, r = nodV (emptyN k) s e ∧ NodR V' s e (emptyN k)) ∧ V.Le V' := by
  refine f87_x ?_
  unfold f87_n
  refine fun _ => br_intro (fun h1 => ⟨by decide, by decide, by decide, by decide, fun r hr => ?_⟩) (fun h1 => br_intro (fun h2 => ?_) (fun h2 => ?_))
  · have h1 : k = 1 := of_decide_eq_true h1
    subst h1
    have hp := View.put_le (o := .cells ⟨(List.replicate 5 [.int .i64 0]).flatten⟩ 3 (0, 0)) (View.see_none_of_ge hr)
    refine ⟨⟨⟨some ⟨r, 0, none⟩, 5, 5⟩, ⟨none, 0, 0⟩, rfl, one64, one64, zero64, ?_, SlR.nil _ _ _⟩, hp⟩
    exact slR_block (l := [0, 0, 0, 0, 0]) (W := V) (View.see_put_same _ _ _) (rows_int (l := [0, 0, 0, 0, 0]) fun n hn => by
      have : n = 0 := by simpa using hn
      rw [this]; exact zero64) hp (show 5 ≤ 140737488355328 by decide)
  · have h2 : k = 2 := of_decide_eq_true h2
    subst h2
    exact ⟨⟨⟨none, 0, 0⟩, ⟨none, 0, 0⟩, rfl, two64, one64, zero64, SlR.nil _ _ _, SlR.nil _ _ _⟩, View.Le.refl _⟩
  · have e : emptyN k = Nod.zero := by
      unfold emptyN
      rw [if_neg (of_decide_eq_false h1), if_neg (of_decide_eq_false h2)]
    rw [e]
    exact ⟨⟨⟨none, 0, 0⟩, ⟨none, 0, 0⟩, rfl, zero64, zero64, zero64, SlR.nil _ _ _, SlR.nil _ _ _⟩, View.Le.refl _⟩
/-- An error as the reference tells it. -/
theorem out_none {V V' : View} {c : Int} {o : Except Int Tre} (hc : c ≠ 0) (hle : V.Le V') (ho : o = .error c) : outT V V' (.tuple ⟨[.agg ⟨[.slice none 0 0]⟩, .int .i64 c]⟩) o := by
  subst ho
  exact ⟨⟨⟨none, 0, 0⟩, c, rfl, rfl, hc, SlR.nil _ _ _⟩, hle⟩
end Go.Proofs.YtdlgpolngnkiaaaGreatDoor

/- Contracts of the reference's calls on names: made, unlinked, removed, linked, dropped. -/
namespace Go.Proofs.YtdlgpolngnkiaaaGreatDoor
open Go
/-- What the reference is told of a parent. -/
theorem outP_ok {t : Tre} {p s : ByteArray} {d : Nat} (h : parentT t p = .ok (d, s)) : outP (parentT t p) = .tuple ⟨[.int .i64 (d : Int), .string s, .int .i64 0]⟩ := by rw [h]; rfl
theorem outP_err {t : Tre} {p : ByteArray} {e : Int} (h : parentT t p = .error e) : outP (parentT t p) = .tuple ⟨[.int .i64 0, .string (ba []), .int .i64 e]⟩ := by rw [h]; rfl
theorem refMake1_ok {s : Sl} {t : Tre} {p : ByteArray} {k : Int} {V : View} (h : SlR V s t) (hp : p.size ≤ 9223372036854775807) : CallV Tryz.prog 57 ⟨[treV s, .string p, .int .i64 k]⟩ V fun r V' => outT V V' r (makesT t p k) := by
  refine f57_x ?_
  unfold f57_n
  have hn := h.n
  refine fun _ _ => (refParent_ok h hp).mono ?_
  rintro r V1 ⟨rfl, hV1⟩
  cases hq : parentT t p with
  | error e =>
    rw [← hq, outP_err hq]
    exact ⟨_, _, _, rfl, br_intro (fun _ => out_none (par_err hq) hV1 (by unfold makesT; rw [hq])) (fun h => absurd (of_decide_eq_true (not_f h)) (par_err hq))⟩
  | ok q =>
    obtain ⟨d, n⟩ := q
    obtain ⟨ld, P⟩ := par_of hq
    have hd := P.d12
    have h12 := (mayT_all P.may).1
    have hE : makesT t p k = if 0 ≤ atI (entsT t d) n then .error 9 else if freeT t < 0 then .error 14 else if 10 ≤ (entsT t d).length then .error 14 else .ok ((entT t d (insE (entsT t d) ⟨n, freeT t⟩)).set (freeT t).toNat (emptyN k)) := by unfold makesT; rw [hq]
    rw [← hq, outP_ok hq]
    obtain ⟨ad, sq, en, ha, hc, hN⟩ := (h.mono hV1).nodN (i := d) (by omega)
    have hen : en.n = (entsT t d).length := hN.ents.n
    refine ⟨_, _, _, rfl, br_intro (fun h => absurd h (by decide)) (fun _ => ⟨by omega, by omega, ad, ha, en, cellsAt_nth hc 4 rfl, (refAt_ok hN.ents).mono ?_⟩)⟩
    rintro r V2 ⟨rfl, rfl⟩
    refine ⟨_, rfl, br_intro (fun h0 => out_none (by decide) hV1 (by rw [hE]; exact if_pos (of_decide_eq_true h0))) (fun h0 => ?_)⟩
    have h0 : ¬ 0 ≤ atI (entsT t d) n := of_decide_eq_false h0
    rw [if_neg h0] at hE
    refine (refFree_ok (h.mono hV1)).mono ?_
    rintro r V3 ⟨rfl, hV3⟩
    have q3 := hV1.trans hV3
    refine ⟨_, rfl, joinP_cut (fun q V' => V' = V3 ∧ q.1 = decide (freeT t < 0 ∨ 10 ≤ (entsT t d).length)) (br_intro (fun hf => ⟨rfl, ?_⟩) (fun hf => ⟨by omega, by omega, ad, ha, en, hV3.cell (cellsAt_nth hc 4 rfl), rfl, ?_⟩)) ?_⟩
    · rw [decide_eq_true (.inl (of_decide_eq_true hf))]
    · have hf := of_decide_eq_false hf
      exact decide_eq_decide.2 ⟨fun h => .inr (by omega), fun h => by rcases h with h | h <;> omega⟩
    rintro ⟨q, ⟨⟩⟩ V4 ⟨rfl, hq4⟩
    dsimp only [unc] at *
    refine br_intro (fun hb => out_none (by decide) q3 ?_) (fun hb => ?_)
    · rw [hq4] at hb
      rw [hE]
      by_cases hf : freeT t < 0
      · rw [if_pos hf]
      · rw [if_neg hf]
        rcases of_decide_eq_true hb with h | h
        · exact absurd h hf
        · rw [if_pos h]
    rw [hq4] at hb
    have hb := of_decide_eq_false hb
    have hf : ¬ freeT t < 0 := fun h => hb (.inl h)
    have hfull : ¬ 10 ≤ (entsT t d).length := fun h => hb (.inr h)
    rw [if_neg hf, if_neg hfull] at hE
    obtain ⟨f1, f2, f3⟩ : 1 ≤ freeT t ∧ freeT t < 12 ∧ kindT t (freeT t).toNat = 0 := by
      rcases free_spec P.may with h | h
      · omega
      · exact h
    have hid : (freeT t).toNat ≠ d := fun e => by rw [e, P.kind] at f3; cases f3
    refine (refCopyT_ok (h.mono q3) (mayT_lightT P.may)).mono ?_
    rintro r V5 ⟨x, rfl, hO⟩
    refine ⟨x, rfl, fun _ => ⟨trivial, V5, View.Le.refl _, (hO.call refEmpty_ok).mono ?_⟩⟩
    rintro r V6 ⟨U, ⟨sq6, en6, rfl, hN6⟩, hU, hV6, hO6⟩
    have hn6 := hO6.n
    obtain ⟨ad6, ha6, c1, c2⟩ := hO6.set (i := (freeT t).toNat) (by omega) (n := emptyN k) (vs := [.int .i64 (emptyN k).kind, .int .i64 (emptyN k).links, .int .i64 (emptyN k).size, .slice sq6.a sq6.n sq6.c, .slice en6.a en6.n en6.c]) fun _ _ => (hN6.mono hU).rep
    refine ⟨_, _, _, sq6, en6, rfl, hV6, by omega, by omega, ad6, ha6, c1, trivial, _, View.Le.refl _, by omega, by omega, ?_⟩
    have q7 := q3.trans c2.le
    obtain ⟨ad7, sq7, en7, ha7, hc7, hN7⟩ := (h.mono q7).nodN (i := d) (by omega)
    have hlen := P.size
    obtain ⟨cs, hB, hrr, hle⟩ := id c2
    refine ⟨ad7, ha7, en7, cellsAt_nth hc7 4 rfl, (c2.call (refWith_ok (((h.mono q3).mono hle).nodN (i := d) (by omega) |> fun ⟨ad8, sq8, en8, ha8, hc8, hN8⟩ => by
      have e1 : ad8 = ad7 := by rw [ha7] at ha8; cases ha8; rfl
      subst e1
      have e2 := cellsAt_mono (View.minus_le _ _) hc8 4 _ rfl
      have e3 := hc7 4 _ rfl
      rw [e2] at e3
      have e3 := Option.some.inj e3
      simp only [Value.slice.injEq] at e3
      have e4 : en8 = en7 := by obtain ⟨a, b, c⟩ := e3; cases en8; cases en7; simp_all
      rw [← e4]; exact hN8.ents) (by omega) (inI64 (by omega) (by omega)))).mono ?_⟩
    rintro r V8 ⟨U8, ⟨y, e, rfl, hy⟩, hU8, hV8, hO8⟩
    have hw := with_par P f1 f2 h0
    rw [if_neg hfull] at hw
    have hw : withE (t.getD d default).ents ⟨n, freeT t⟩ = .ok (insE (entsT t d) ⟨n, freeT t⟩) := hw
    rw [hw] at hy
    obtain ⟨rfl, hy⟩ := hy
    have hn8 := hO8.n
    rw [List.length_set] at hn8
    obtain ⟨ad9, sq9, en9, ha9, hc9, _, _, _, _, hset⟩ := hO8.setC (i := d) (by simp; omega)
    obtain ⟨a1, a2⟩ := hset y (insE (entsT t d) ⟨n, freeT t⟩) _ (hy.mono hU8) rfl
    rw [hE]
    refine ⟨y, _, rfl, hV8, by omega, by omega, ad9, ha9, a1, ⟨x, 0, rfl, rfl, ?_⟩, q3.trans a2.le⟩
    have e5 : (t.set (freeT t).toNat (emptyN k)).set d { (t.set (freeT t).toNat (emptyN k)).getD d default with ents := insE (entsT t d) ⟨n, freeT t⟩ } = (entT t d (insE (entsT t d) ⟨n, freeT t⟩)).set (freeT t).toNat (emptyN k) := by
      have g1 : ∀ j, (t.set (freeT t).toNat (emptyN k)).getD j default = if j = (freeT t).toNat then emptyN k else t.getD j default := fun j => getD_set (by omega)
      refine ext_getD (by simp [entT_len]) fun j _ => ?_
      rw [getD_set (t := t.set (freeT t).toNat (emptyN k)) (by simp; omega), g1, g1, getD_set (t := entT t d (insE (entsT t d) ⟨n, freeT t⟩)) (by rw [entT_len]; omega), entT_get (by omega)]
      by_cases h1 : j = d
      · subst h1; rw [if_pos rfl, if_neg (fun e => hid e.symm), if_neg (fun e => hid e.symm), if_pos rfl]
      · rw [if_neg h1, if_neg h1]
    rw [← e5]; exact a2.slR
theorem refCreate_ok {s : Sl} {t : Tre} {p : ByteArray} {V : View} (h : SlR V s t) (hp : p.size ≤ 9223372036854775807) : CallV Tryz.prog 24 ⟨[treV s, .string p]⟩ V fun r V' => outT V V' r (makesT t p 1) := by
  refine f24_x ?_
  unfold f24_n
  refine fun _ _ => (refMake1_ok h hp).mono ?_
  rintro r V1 ⟨⟨x, e, rfl, h1⟩, h2⟩
  exact ⟨x, e, rfl, ⟨x, e, rfl, h1⟩, h2⟩
theorem refMkdir_ok {s : Sl} {t : Tre} {p : ByteArray} {V : View} (h : SlR V s t) (hp : p.size ≤ 9223372036854775807) : CallV Tryz.prog 25 ⟨[treV s, .string p]⟩ V fun r V' => outT V V' r (makesT t p 2) := by
  refine f25_x ?_
  unfold f25_n
  refine fun _ _ => (refMake1_ok h hp).mono ?_
  rintro r V1 ⟨⟨x, e, rfl, h1⟩, h2⟩
  exact ⟨x, e, rfl, ⟨x, e, rfl, h1⟩, h2⟩
end Go.Proofs.YtdlgpolngnkiaaaGreatDoor

/- What is found behind a call on names: plain laws. -/
namespace Go.Proofs.YtdlgpolngnkiaaaGreatDoor
open Go
theorem goF_app {t : Tre} {m : List ByteArray} : ∀ {l : List ByteArray} {a d : Nat}, goF t a l = .ok d → goF t a (l ++ m) = goF t d m
  | [], a, d, h => by cases h; rfl
  | s :: l, a, d, h => by
    rw [goF_cons] at h
    rw [List.cons_append, goF_cons]
    split at h
    · rename_i hk
      rw [if_pos hk]
      split at h
      · cases h
      · rename_i h0
        rw [if_neg h0]; exact goF_app h
    · cases h
theorem goF_at {t : Tre} {d : Nat} {s : ByteArray} (hk : kindT t d = 2) : goF t d [s] = if atI (entsT t d) s < 0 then .error 8 else .ok (atI (entsT t d) s).toNat := by
  rw [goF_cons, if_pos hk]; rfl
theorem Par.findAt {t : Tre} {p s : ByteArray} {ld : List ByteArray} {d : Nat} (h : Par t p ld d s) : findT t p = if atI (entsT t d) s < 0 then .error 8 else .ok (atI (entsT t d) s).toNat := by
  rw [h.find, goF_app h.go, goF_at h.kind]
theorem Par.found {t : Tre} {p s : ByteArray} {ld : List ByteArray} {d i : Nat} (h : Par t p ld d s) (ha : atI (entsT t d) s = i) : findT t p = .ok i := by
  rw [h.findAt, ha, if_neg (by omega), Int.toNat_natCast]
theorem find_may {t : Tre} {p : ByteArray} {i : Nat} (h : findT t p = .ok i) : mayT t = true := by
  unfold findT at h; split at h; assumption; cases h
/-- What is found, and is not the root, has a parent and a name. -/
theorem find_par {t : Tre} {p : ByteArray} {i : Nat} (h : findT t p = .ok i) (hi : i ≠ 0) : ∃ ld d s, Par t p ld d s ∧ atI (entsT t d) s = i := by
  have hM := find_may h
  unfold findT at h
  rw [if_pos hM] at h
  cases hs : splitP p with
  | none => rw [hs] at h; cases h
  | some l =>
    rw [hs] at h
    have h : goF t 0 l = .ok i := h
    rcases nil_or_snoc l with rfl | ⟨ld, s, rfl⟩
    · cases h; exact absurd rfl hi
    · obtain ⟨d, h1, h2⟩ := (goF_snoc t s ld 0 i).1 h
      obtain ⟨hk, e, he, hn, hq⟩ := goF_one h2
      refine ⟨ld, d, s, ⟨hM, hs, h1, hk⟩, ?_⟩
      have := atI_of ((mayF hM).pair d) he
      rw [hn] at this
      have h3 := (mayF hM).ent he
      omega
theorem atI_none {l : List Ent} {s : ByteArray} (h : hasE l s = false) : atI l s = -1 := by
  unfold atI
  rw [List.find?_eq_none.2]
  intro e he
  simpa using has_false.1 h e he
theorem atI_at {l : List Ent} (h : mayL l = true) {e : Ent} (he : e ∈ l) : atI l e.name = e.node := atI_of (mayL_pair h) he
theorem atI_ins {l : List Ent} {x : Ent} (hl : mayL l = true) (h : mayL (insE l x) = true) (s : ByteArray) : atI (insE l x) s = if x.name = s then x.node else atI l s := by
  by_cases hs : x.name = s
  · rw [if_pos hs, ← hs]; exact atI_at h (ins_mem.2 (.inl rfl))
  · rw [if_neg hs]
    cases hh : hasE l s with
    | true =>
      obtain ⟨e, he, hn⟩ := has_true.1 hh
      rw [← hn, atI_at hl he]; exact atI_at h (ins_mem.2 (.inr he))
    | false =>
      rw [atI_none hh]
      refine atI_none (has_false.2 fun e he => ?_)
      rcases ins_mem.1 he with rfl | he
      · exact hs
      · exact has_false.1 hh e he
theorem atI_cut {l : List Ent} (hl : mayL l = true) (n s : ByteArray) : atI (cutE l n) s = if n = s then -1 else atI l s := by
  by_cases hs : n = s
  · rw [if_pos hs, ← hs]; exact atI_none (cut_has l n)
  · rw [if_neg hs]
    cases hh : hasE l s with
    | true =>
      obtain ⟨e, he, hn⟩ := has_true.1 hh
      rw [← hn, atI_at hl he]
      exact atI_at (mayL_cut hl n) (cut_mem.2 ⟨he, fun h => hs (by rw [← hn, h])⟩)
    | false =>
      rw [atI_none hh]
      exact atI_none (has_false.2 fun e he => has_false.1 hh e (cut_mem.1 he).1)
theorem go_keep {t u : Tre} {A : Nat → Prop} (hk : ∀ p e, e ∈ entsT t p → ¬ A e.node.toNat → kindT u p = 2 ∧ atI (entsT u p) e.name = atI (entsT t p) e.name) :
    ∀ {l : List ByteArray} {a q : Nat}, goF t a l = .ok q → (∀ i, A i → ¬ Reach t i q) → goF u a l = .ok q
  | [], a, q, h, _ => by cases h; rfl
  | s :: l, a, q, h, hA => by
    rw [goF_cons] at h
    split at h
    · split at h
      · cases h
      · rename_i h0
        obtain ⟨e, he, hn, hq⟩ := atI_mem h0
        have hr := goF_reach h
        rw [← hq] at hr
        obtain ⟨h1, h2⟩ := hk a e he fun hA2 => hA _ hA2 hr
        rw [hn] at h2
        rw [goF_cons, if_pos h1, h2, if_neg h0]
        exact go_keep hk h hA
    · cases h
/-- What is known of a new node. -/
structure NewN (t u : Tre) (p : ByteArray) (k : Int) (ld : List ByteArray) (d : Nat) (s : ByteArray) (i : Nat) : Prop where
  P : Par t p ld d s
  no : atI (entsT t d) s = -1
  i0 : i ≠ 0
  i12 : i < 12
  id : i ≠ d
  free : kindT t i = 0
  room : (entsT t d).length < 10
  eq : u = (entT t d (insE (entsT t d) ⟨s, i⟩)).set i (emptyN k)
  at_ : ∀ j, u.getD j default = if j = i then emptyN k else if j = d then { t.getD d default with ents := insE (entsT t d) ⟨s, i⟩ } else t.getD j default
  may : mayT u = true
  insM : mayL (insE (entsT t d) ⟨s, i⟩) = true
theorem new_of {t u : Tre} {p : ByteArray} {k : Int} (hk : k = 1 ∨ k = 2) (h : makesT t p k = .ok u) : ∃ ld d s i, NewN t u p k ld d s i := by
  have hmu := makes_may hk h
  unfold makesT at h
  cases hq : parentT t p with
  | error e => rw [hq] at h; cases h
  | ok q =>
    obtain ⟨d, s⟩ := q
    obtain ⟨ld, P⟩ := par_of hq
    rw [hq] at h
    dsimp only at h
    by_cases h0 : 0 ≤ atI (entsT t d) s
    · rw [if_pos h0] at h; cases h
    by_cases h1 : freeT t < 0
    · rw [if_neg h0, if_pos h1] at h; cases h
    by_cases h2 : 10 ≤ (entsT t d).length
    · rw [if_neg h0, if_neg h1, if_pos h2] at h; cases h
    rw [if_neg h0, if_neg h1, if_neg h2] at h
    obtain ⟨f1, f2, f3⟩ : 1 ≤ freeT t ∧ freeT t < 12 ∧ kindT t (freeT t).toNat = 0 := by
      rcases free_spec P.may with h | h
      · omega
      · exact h
    obtain ⟨i, hi⟩ : ∃ i : Nat, freeT t = i := ⟨(freeT t).toNat, by omega⟩
    rw [hi] at h f1 f2 f3
    rw [Int.toNat_natCast] at h f3
    have h := Except.ok.inj h
    have hat := P.at
    have h12 := (mayT_all P.may).1
    have hd := P.d12
    have hid : i ≠ d := fun e => by rw [e, P.kind] at f3; cases f3
    refine ⟨ld, d, s, i, P, by omega, by omega, by omega, hid, f3, by omega, h.symm, fun j => ?_, hmu, ?_⟩
    · rw [← h, getD_set (by rw [entT_len]; omega)]
      by_cases hj : j = i
      · rw [if_pos hj, if_pos hj]
      · rw [if_neg hj, if_neg hj, entT_get (by omega)]
    · exact mayL_ins P.mayL (sole_of P.sole (by omega) (by omega)) (by rw [has_of_at P, decide_eq_false h0]) (by omega)
section
variable {t u : Tre} {p s : ByteArray} {k : Int} {ld : List ByteArray} {d i : Nat}
theorem NewN.len (h : NewN t u p k ld d s i) : u.length = 12 := (mayT_all h.may).1
theorem NewN.entsD (h : NewN t u p k ld d s i) : entsT u d = insE (entsT t d) ⟨s, i⟩ := by
  unfold entsT; rw [h.at_, if_neg (fun e => h.id e.symm), if_pos rfl]
theorem NewN.entsI (h : NewN t u p k ld d s i) (hk : k = 1 ∨ k = 2) : entsT u i = [] := by
  unfold entsT; rw [h.at_, if_pos rfl]; rcases hk with rfl | rfl <;> rfl
theorem NewN.entsO (h : NewN t u p k ld d s i) {j : Nat} (h1 : j ≠ i) (h2 : j ≠ d) : entsT u j = entsT t j := by
  unfold entsT; rw [h.at_, if_neg h1, if_neg h2]
theorem NewN.kindI (h : NewN t u p k ld d s i) (hk : k = 1 ∨ k = 2) : kindT u i = k := by
  unfold kindT; rw [h.at_, if_pos rfl]; rcases hk with rfl | rfl <;> rfl
theorem NewN.kindO (h : NewN t u p k ld d s i) {j : Nat} (h1 : j ≠ i) : kindT u j = kindT t j := by
  unfold kindT; rw [h.at_, if_neg h1]; split
  · rename_i e; subst e; rfl
  · rfl
theorem NewN.atD (h : NewN t u p k ld d s i) (n : ByteArray) : atI (entsT u d) n = if s = n then (i : Int) else atI (entsT t d) n := by
  rw [h.entsD, atI_ins h.P.mayL h.insM]
theorem NewN.keep (h : NewN t u p k ld d s i) {l : List ByteArray} {a q : Nat} (hg : goF t a l = .ok q) : goF u a l = .ok q := by
  refine go_keep (A := fun _ => False) (fun p' e he _ => ?_) hg (fun _ h => h.elim)
  have hF := mayF h.P.may
  have hp := hF.ent he
  have hpi : p' ≠ i := fun e => by rw [e, h.free] at hp; exact absurd hp.2.1 (by decide)
  refine ⟨by rw [h.kindO hpi]; exact hp.2.1, ?_⟩
  by_cases hpd : p' = d
  · subst hpd
    rw [h.atD, if_neg]
    intro hs
    have := atI_at h.P.mayL he
    rw [← hs, h.no] at this
    omega
  · rw [h.entsO hpi hpd]
theorem NewN.par (h : NewN t u p k ld d s i) : Par u p ld d s := ⟨h.may, h.P.split, h.keep h.P.go, by rw [h.kindO (fun e => h.id e.symm)]; exact h.P.kind⟩
theorem NewN.find (h : NewN t u p k ld d s i) : findT u p = .ok i := h.par.found (by rw [h.atD, if_pos rfl])
theorem NewN.zero (h : NewN t u p k ld d s i) : t.getD i default = Nod.zero := zero_of (mayF h.P.may) h.i12 h.free
/-- The new one goes again. -/
theorem NewN.back (h : NewN t u p k ld d s i) : (entT u d (cutE (entsT u d) s)).set i Nod.zero = t := by
  have h12 := (mayT_all h.P.may).1
  have hul := h.len
  have hd := h.P.d12
  refine ext_getD (by rw [List.length_set, entT_len, hul, h12]) fun j _ => ?_
  rw [getD_set (by rw [entT_len]; have := h.i12; omega)]
  by_cases hj : j = i
  · subst hj; rw [if_pos rfl, h.zero]
  rw [if_neg hj, entT_get (by omega)]
  by_cases hjd : j = d
  · subst hjd
    rw [if_pos rfl, h.at_, if_neg hj, if_pos rfl, h.entsD]
    have hc : cutE (insE (entsT t j) ⟨s, i⟩) s = entsT t j := cut_ins (x := ⟨s, i⟩) (by
      show hasE (entsT t j) s = false
      rw [has_of_at h.P, h.no]; rfl)
    rw [hc]
  · rw [if_neg hjd, h.at_, if_neg hj, if_neg hjd]
theorem NewN.unlink (h : NewN t u p 1 ld d s i) : unlinkT u p [] = .ok t := by
  have ha : atI (entsT u d) s = i := by rw [h.atD, if_pos rfl]
  unfold unlinkT
  rw [h.par.eq]; dsimp only
  rw [ha, if_neg (by omega), Int.toNat_natCast, if_neg (by rw [h.kindI (.inl rfl)]; decide)]
  have : lessT (entT u d (cutE (entsT u d) s)) i [] = (entT u d (cutE (entsT u d) s)).set i Nod.zero := by
    unfold lessT
    rw [if_neg]
    rintro ⟨_, h1 | h1⟩
    · rw [entT_at h.id, h.at_, if_pos rfl] at h1; exact absurd h1 (by decide)
    · exact absurd h1 (by unfold heldB; simp)
  rw [this, h.back]
theorem NewN.rmdir (h : NewN t u p 2 ld d s i) : rmdirT u p = .ok t := by
  have ha : atI (entsT u d) s = i := by rw [h.atD, if_pos rfl]
  unfold rmdirT
  rw [h.par.eq]; dsimp only
  rw [ha, if_neg (by omega), Int.toNat_natCast, if_neg (by rw [h.kindI (.inr rfl)]; decide), if_neg (by rw [h.entsI (.inr rfl)]; decide), h.back]
end
end Go.Proofs.YtdlgpolngnkiaaaGreatDoor

/- Contracts of the reference's calls on names: unlinked, removed, linked, dropped. -/
namespace Go.Proofs.YtdlgpolngnkiaaaGreatDoor
open Go
theorem refLess_ok {V0 V : View} {x y : Sl} {t : Tre} {i : Nat} {held : List Bool} (h : OwnT V0 V x t) (hi : i < t.length) (hk : kindT t i = 1) (hl : 1 ≤ (t.getD i default).links) (hy : SlR V0 y held) :
    CallV Tryz.prog 62 ⟨[treV x, .int .i64 i, .slice y.a y.n y.c]⟩ V fun r V' => r = .tuple ⟨[]⟩ ∧ OwnT V0 V' x (lessT t i held) := by
  refine f62_x ?_
  unfold f62_n
  obtain ⟨ad, sq, en, ha, hcs, hN, hset, _⟩ := h.setC hi
  have hn := h.n
  have hyn := hy.n
  obtain ⟨a1, a2⟩ := hset ((t.getD i default).links - 1) _ (inI_pred hN.links (by omega)) rfl
  have hi1 : i < (t.set i { t.getD i default with links := (t.getD i default).links - 1 }).length := by simpa using hi
  obtain ⟨ad1, sq1, en1, ha1, hcs1, hN1, _⟩ := a2.setC hi1
  have e1 : (t.set i { t.getD i default with links := (t.getD i default).links - 1 }).getD i default = { t.getD i default with links := (t.getD i default).links - 1 } := by
    rw [getD_at hi1]; simp
  rw [ha] at ha1; cases ha1
  rw [e1] at hcs1
  have hle1 := a2.le
  refine fun _ => ⟨by omega, by omega, ad, ha, _, cellsAt_nth hcs 1 rfl, inI_pred hN.links (by omega), by omega, by omega, ad, ha, a1, ?_⟩
  refine joinP_cut (fun q V' => OwnT V0 V' x (t.set i { t.getD i default with links := (t.getD i default).links - 1 }) ∧ q.1 = (decide ((t.getD i default).links - 1 = 0) && !heldB held i)) ⟨by omega, by omega, ad, ha, _, cellsAt_nth hcs1 1 rfl, br_intro (fun hz => (refIsHeld_ok (hy.mono hle1)).mono ?_) (fun hz => ⟨a2, by rw [hz]; rfl⟩)⟩ ?_
  · rintro r V1 ⟨rfl, rfl⟩
    exact ⟨_, rfl, a2, by rw [hz]; rfl⟩
  rintro ⟨q, ⟨⟩⟩ V1 ⟨hO, hq⟩
  dsimp only [unc] at *
  refine joinP_cut (fun _ V' => OwnT V0 V' x (lessT t i held)) (br_intro (fun hb => ?_) (fun hb => ?_)) ?_
  · rw [hq, Bool.and_eq_true] at hb
    have hz := of_decide_eq_true hb.1
    obtain ⟨ad2, ha2, b1, b2⟩ := hO.set (i := i) hi1 (n := Nod.zero) (vs := [.int .i64 0, .int .i64 0, .int .i64 0, .slice none 0 0, .slice none 0 0]) fun _ _ => zeroN_rep
    rw [List.set_set] at b2
    refine ⟨by omega, by omega, ad2, ha2, b1, ?_⟩
    have : lessT t i held = t.set i Nod.zero := by
      unfold lessT
      rw [if_neg]
      rintro ⟨_, h | h⟩
      · omega
      · rw [h] at hb; exact absurd hb.2 (by decide)
    rw [this]; exact b2
  · rw [hq] at hb
    have : lessT t i held = t.set i { t.getD i default with links := (t.getD i default).links - 1 } := by
      unfold lessT
      rw [if_pos]
      refine ⟨hk, ?_⟩
      by_cases hz : (t.getD i default).links - 1 = 0
      · right
        rw [decide_eq_true hz, Bool.true_and] at hb
        exact not_f hb
      · left; omega
    rw [this]; exact hO
  · rintro ⟨⟩ V2 h2; exact ⟨rfl, h2⟩
/-- A row of entries of a tree of one's own, set behind a call. -/
theorem own_ents {V0 V : View} {x y : Sl} {t : Tre} {d : Nat} {l : List Ent} (h : OwnT V0 V x t) (hd : d < t.length) (hy : SlR (V.minus x) y l) : ∃ ad, x.a = some ad ∧ canSet V ((ad.add (d * 5)).add 4) 1 ∧ OwnT V0 (V.sets ((ad.add (d * 5)).add 4) [.slice y.a y.n y.c]) x (entT t d l) := by
  obtain ⟨ad, sq, en, ha, hcs, hN, _, _, _, hset⟩ := h.setC hd
  obtain ⟨a1, a2⟩ := hset y l _ hy rfl
  exact ⟨ad, ha, a1, a2⟩
/-- A node's entries, read beside a tree of one's own. -/
theorem side_ents {V V1 V2 : View} {s x : Sl} {t u : Tre} {d : Nat} (h : SlR V s t) (hO : OwnT V1 V2 x u) (hV : V.Le V1) (hd : d < t.length) : ∃ ad en, s.a = some ad ∧ V2.cell? ((ad.add (d * 5)).add 4) = some (.slice en.a en.n en.c) ∧ SlR (V2.minus x) en (entsT t d) := by
  obtain ⟨cs, hB, hr, hle⟩ := hO
  have h1 := (h.mono hV).mono hle
  obtain ⟨ad, sq, en, ha, hc, hN⟩ := h1.nodN hd
  exact ⟨ad, en, ha, (View.minus_le _ _).cell (cellsAt_nth hc 4 rfl), hN.ents⟩
theorem refUnlink_ok {s y : Sl} {t : Tre} {p : ByteArray} {held : List Bool} {V : View} (h : SlR V s t) (hy : SlR V y held) (hp : p.size ≤ 9223372036854775807) : CallV Tryz.prog 26 ⟨[treV s, .string p, .slice y.a y.n y.c]⟩ V fun r V' => outT V V' r (unlinkT t p held) := by
  refine f26_x ?_
  unfold f26_n
  have hn := h.n
  refine fun _ _ => (refParent_ok h hp).mono ?_
  rintro r V1 ⟨rfl, hV1⟩
  cases hq : parentT t p with
  | error e =>
    rw [← hq, outP_err hq]
    exact ⟨_, _, _, rfl, br_intro (fun _ => out_none (par_err hq) hV1 (by unfold unlinkT; rw [hq])) (fun h => absurd (of_decide_eq_true (not_f h)) (par_err hq))⟩
  | ok q =>
    obtain ⟨d, n⟩ := q
    obtain ⟨ld, P⟩ := par_of hq
    have hd := P.d12
    have h12 := (mayT_all P.may).1
    have hE : unlinkT t p held = if atI (entsT t d) n < 0 then .error 8 else if kindT t (atI (entsT t d) n).toNat = 2 then .error 10 else .ok (lessT (entT t d (cutE (entsT t d) n)) (atI (entsT t d) n).toNat held) := by unfold unlinkT; rw [hq]
    rw [← hq, outP_ok hq]
    obtain ⟨ad, sq, en, ha, hc, hN⟩ := (h.mono hV1).nodN (i := d) (by omega)
    refine ⟨_, _, _, rfl, br_intro (fun h => absurd h (by decide)) (fun _ => ⟨by omega, by omega, ad, ha, en, cellsAt_nth hc 4 rfl, (refAt_ok hN.ents).mono ?_⟩)⟩
    rintro r V2 ⟨rfl, rfl⟩
    refine ⟨_, rfl, br_intro (fun h0 => out_none (by decide) hV1 (by rw [hE]; exact if_pos (of_decide_eq_true h0))) (fun h0 => ?_)⟩
    have h0 : ¬ atI (entsT t d) n < 0 := of_decide_eq_false h0
    rw [if_neg h0] at hE
    obtain ⟨k0, k1, k2, k3, xe, hx, _, hxi⟩ := at_kind P.may h0
    have hne := cutd_self P.may h0
    obtain ⟨i, hi⟩ : ∃ i : Nat, atI (entsT t d) n = i := ⟨(atI (entsT t d) n).toNat, by omega⟩
    have hi' : atI (t.getD d default).ents n = i := hi
    rw [hi'] 
    rw [hi] at k1 k2 k3 hne hE hxi
    rw [Int.toNat_natCast] at k3 hne hE
    obtain ⟨ad2, sq2, en2, ha2, hc2, hN2⟩ := (h.mono hV1).nodN (i := i) (by omega)
    refine ⟨by omega, by omega, ad2, ha2, _, cellsAt_nth hc2 0 rfl, br_intro (fun hk => out_none (by decide) hV1 (by rw [hE]; exact if_pos (of_decide_eq_true hk))) (fun hk => ?_)⟩
    have hk : ¬ kindT t i = 2 := of_decide_eq_false hk
    rw [if_neg hk] at hE
    refine (refCopyT_ok (h.mono hV1) (mayT_lightT P.may)).mono ?_
    rintro r V3 ⟨x, rfl, hO⟩
    have hxn := hO.n
    obtain ⟨ad4, en4, ha4, hc4, hs4⟩ := side_ents (d := d) h hO hV1 (by omega)
    refine ⟨x, rfl, fun _ => ⟨trivial, V3, View.Le.refl _, by omega, by omega, ad4, ha4, en4, hc4, (hO.call (refWithout_ok hs4)).mono ?_⟩⟩
    rintro r V4 ⟨U4, ⟨z, e, rfl, hz⟩, hU4, hV4, hO4⟩
    rw [without_par P (by rw [hi]; omega)] at hz
    obtain ⟨rfl, hz⟩ := hz
    obtain ⟨ad5, ha5, c1, c2⟩ := own_ents hO4 (d := d) (by omega) (hz.mono hU4)
    have hF := mayF P.may
    have hk1 : kindT t i = 1 := by
      rcases kind_of (hF.at (i := i) (by omega)) with h | h | h
      · exact absurd h k3
      · exact h
      · exact absurd h hk
    have hl1 : 1 ≤ (t.getD i default).links := by
      have h1 := hF.file i (by omega) hk1
      have := named_one (x := (i : Int)) hx hxi
      omega
    have e1 := entT_at (t := t) (l := cutE (entsT t d) n) hne
    refine ⟨z, _, rfl, hV4, by omega, by omega, ad5, ha5, c1, (refLess_ok c2 (i := i) (by rw [entT_len]; omega) (by unfold kindT; rw [e1]; exact hk1) (by rw [e1]; exact hl1) (hy.mono hV1)).mono ?_⟩
    rintro r V5 ⟨rfl, h5⟩
    rw [hE]
    exact ⟨rfl, ⟨x, 0, rfl, rfl, h5.slR⟩, hV1.trans h5.le⟩
theorem refRmdir_ok {s : Sl} {t : Tre} {p : ByteArray} {V : View} (h : SlR V s t) (hp : p.size ≤ 9223372036854775807) : CallV Tryz.prog 27 ⟨[treV s, .string p]⟩ V fun r V' => outT V V' r (rmdirT t p) := by
  refine f27_x ?_
  unfold f27_n
  have hn := h.n
  refine fun _ _ => (refParent_ok h hp).mono ?_
  rintro r V1 ⟨rfl, hV1⟩
  cases hq : parentT t p with
  | error e =>
    rw [← hq, outP_err hq]
    exact ⟨_, _, _, rfl, br_intro (fun _ => out_none (par_err hq) hV1 (by unfold rmdirT; rw [hq])) (fun h => absurd (of_decide_eq_true (not_f h)) (par_err hq))⟩
  | ok q =>
    obtain ⟨d, n⟩ := q
    obtain ⟨ld, P⟩ := par_of hq
    have hd := P.d12
    have h12 := (mayT_all P.may).1
    have hE : rmdirT t p = if atI (entsT t d) n < 0 then .error 8 else if kindT t (atI (entsT t d) n).toNat ≠ 2 then .error 11 else if 0 < (entsT t (atI (entsT t d) n).toNat).length then .error 12 else .ok ((entT t d (cutE (entsT t d) n)).set (atI (entsT t d) n).toNat Nod.zero) := by unfold rmdirT; rw [hq]
    rw [← hq, outP_ok hq]
    obtain ⟨ad, sq, en, ha, hc, hN⟩ := (h.mono hV1).nodN (i := d) (by omega)
    refine ⟨_, _, _, rfl, br_intro (fun h => absurd h (by decide)) (fun _ => ⟨by omega, by omega, ad, ha, en, cellsAt_nth hc 4 rfl, (refAt_ok hN.ents).mono ?_⟩)⟩
    rintro r V2 ⟨rfl, rfl⟩
    refine ⟨_, rfl, br_intro (fun h0 => out_none (by decide) hV1 (by rw [hE]; exact if_pos (of_decide_eq_true h0))) (fun h0 => ?_)⟩
    have h0 : ¬ atI (entsT t d) n < 0 := of_decide_eq_false h0
    rw [if_neg h0] at hE
    obtain ⟨k0, k1, k2, k3, xe, hx, _, hxi⟩ := at_kind P.may h0
    have hne := cutd_self P.may h0
    obtain ⟨i, hi⟩ : ∃ i : Nat, atI (entsT t d) n = i := ⟨(atI (entsT t d) n).toNat, by omega⟩
    have hi' : atI (t.getD d default).ents n = i := hi
    rw [hi'] 
    rw [hi] at k1 k2 k3 hne hE hxi
    rw [Int.toNat_natCast] at k3 hne hE
    obtain ⟨ad2, sq2, en2, ha2, hc2, hN2⟩ := (h.mono hV1).nodN (i := i) (by omega)
    have hen2 : en2.n = (entsT t i).length := hN2.ents.n
    refine ⟨by omega, by omega, ad2, ha2, _, cellsAt_nth hc2 0 rfl, br_intro (fun hk => out_none (by decide) hV1 (by rw [hE]; exact if_pos (show kindT t i ≠ 2 from of_decide_eq_false (not_t hk)))) (fun hk => ?_)⟩
    have hk : kindT t i = 2 := of_decide_eq_true (not_f hk)
    rw [if_neg (fun h => h hk)] at hE
    refine ⟨by omega, by omega, ad2, ha2, en2, cellsAt_nth hc2 4 rfl, br_intro (fun hl => out_none (by decide) hV1 (by rw [hE]; exact if_pos (by have := of_decide_eq_true hl; omega))) (fun hl => ?_)⟩
    rw [if_neg (by have := of_decide_eq_false hl; omega)] at hE
    refine (refCopyT_ok (h.mono hV1) (mayT_lightT P.may)).mono ?_
    rintro r V3 ⟨x, rfl, hO⟩
    have hxn := hO.n
    obtain ⟨ad4, en4, ha4, hc4, hs4⟩ := side_ents (d := d) h hO hV1 (by omega)
    refine ⟨x, rfl, fun _ => ⟨trivial, V3, View.Le.refl _, by omega, by omega, ad4, ha4, en4, hc4, (hO.call (refWithout_ok hs4)).mono ?_⟩⟩
    rintro r V4 ⟨U4, ⟨z, e, rfl, hz⟩, hU4, hV4, hO4⟩
    rw [without_par P (by rw [hi]; omega)] at hz
    obtain ⟨rfl, hz⟩ := hz
    obtain ⟨ad5, ha5, c1, c2⟩ := own_ents hO4 (d := d) (by omega) (hz.mono hU4)
    obtain ⟨ad6, ha6, b1, b2⟩ := c2.set (i := i) (by rw [entT_len]; omega) (n := Nod.zero) (vs := [.int .i64 0, .int .i64 0, .int .i64 0, .slice none 0 0, .slice none 0 0]) fun _ _ => zeroN_rep
    rw [hE]
    exact ⟨z, _, rfl, hV4, by omega, by omega, ad5, ha5, c1, by omega, by omega, ad6, ha6, b1, ⟨x, 0, rfl, rfl, b2.slR⟩, hV1.trans b2.le⟩
theorem refLink_ok {s : Sl} {t : Tre} {p q : ByteArray} {V : View} (h : SlR V s t) (hp : p.size ≤ 9223372036854775807) (hq' : q.size ≤ 9223372036854775807) : CallV Tryz.prog 29 ⟨[treV s, .string p, .string q]⟩ V fun r V' => outT V V' r (linkT t p q) := by
  refine f29_x ?_
  unfold f29_n
  have hn := h.n
  refine fun _ _ => (refFind_ok h hp).mono ?_
  rintro r V1 ⟨rfl, hV1⟩
  cases hf : findT t p with
  | error e =>
    exact ⟨_, _, rfl, br_intro (fun _ => out_none (ends_only hf) hV1 (by unfold linkT; rw [hf])) (fun h => absurd (of_decide_eq_true (not_f h)) (ends_only hf))⟩
  | ok i =>
    have hi := findT_range hf
    have hM := find_may hf
    have h12 := (mayT_all hM).1
    have hE : linkT t p q = if kindT t i = 2 then .error 10 else match parentT t q with
      | .error e => .error e
      | .ok (d, s) => if 0 ≤ atI (entsT t d) s then .error 9 else if 10 ≤ (entsT t d).length then .error 14 else
        .ok ((entT t d (insE (entsT t d) ⟨s, i⟩)).set i { t.getD i default with links := (t.getD i default).links + 1 }) := by unfold linkT; rw [hf] <;> rfl
    obtain ⟨ad, sq, en, ha, hc, hN⟩ := (h.mono hV1).nodN (i := i) (by omega)
    refine ⟨_, _, rfl, br_intro (fun h => absurd h (by decide)) (fun _ => ⟨by omega, by omega, ad, ha, _, cellsAt_nth hc 0 rfl, br_intro (fun hk => out_none (by decide) hV1 (by rw [hE]; exact if_pos (show kindT t i = 2 from of_decide_eq_true hk))) (fun hk => ?_)⟩)⟩
    have hk : ¬ kindT t i = 2 := of_decide_eq_false hk
    rw [if_neg hk] at hE
    refine (refParent_ok (h.mono hV1) hq').mono ?_
    rintro r V2 ⟨rfl, hV2⟩
    have q2 := hV1.trans hV2
    cases hr : parentT t q with
    | error e =>
      rw [← hr, outP_err hr]
      exact ⟨_, _, _, rfl, br_intro (fun _ => out_none (par_err hr) q2 (by rw [hE, hr])) (fun h => absurd (of_decide_eq_true (not_f h)) (par_err hr))⟩
    | ok z =>
      obtain ⟨d, n⟩ := z
      obtain ⟨ld, P⟩ := par_of hr
      have hd := P.d12
      rw [hr] at hE
      dsimp only at hE
      rw [← hr, outP_ok hr]
      have hid : i ≠ d := fun e => hk (by rw [e]; exact P.kind)
      have hi0 : i ≠ 0 := fun e => hk (by rw [e]; exact (mayF hM).top)
      have hlen := P.size
      obtain ⟨ad2, sq2, en2, ha2, hc2, hN2⟩ := (h.mono q2).nodN (i := d) (by omega)
      refine ⟨_, _, _, rfl, br_intro (fun h => absurd h (by decide)) (fun _ => ⟨by omega, by omega, ad2, ha2, en2, cellsAt_nth hc2 4 rfl, (refWith_ok hN2.ents (by omega) (inI64 (by omega) (by omega))).mono ?_⟩)⟩
      rintro r V3 ⟨⟨z, e, rfl, hz⟩, hV3⟩
      have q3 := q2.trans hV3
      by_cases h0 : 0 ≤ atI (entsT t d) n
      · rw [if_pos h0] at hE
        have hw : withE (entsT t d) ⟨n, (i : Int)⟩ = .error 9 := by
          rw [with_ok_of P.mayL (sole_of P.sole hi0 hi), if_pos (show hasE (entsT t d) n = true by rw [has_of_at P, decide_eq_true h0])]
        have hw : withE (t.getD d default).ents ⟨n, (i : Int)⟩ = .error 9 := hw
        rw [hw] at hz
        obtain ⟨rfl, _⟩ := hz
        exact ⟨z, _, rfl, br_intro (fun _ => out_none (by decide) q3 hE) (fun h => absurd h (by decide))⟩
      rw [if_neg h0] at hE
      have hw := with_par P (i := (i : Int)) (by omega) (by omega) h0
      by_cases hfull : 10 ≤ (entsT t d).length
      · rw [if_pos hfull] at hE hw
        have hw : withE (t.getD d default).ents ⟨n, (i : Int)⟩ = .error 14 := hw
        rw [hw] at hz
        obtain ⟨rfl, _⟩ := hz
        exact ⟨z, _, rfl, br_intro (fun _ => out_none (by decide) q3 hE) (fun h => absurd h (by decide))⟩
      rw [if_neg hfull] at hE hw
      have hw : withE (t.getD d default).ents ⟨n, (i : Int)⟩ = .ok (insE (entsT t d) ⟨n, (i : Int)⟩) := hw
      rw [hw] at hz
      obtain ⟨rfl, hz⟩ := hz
      refine ⟨z, _, rfl, br_intro (fun h => absurd h (by decide)) (fun _ => (refCopyT_ok (h.mono q3) (mayT_lightT hM)).mono ?_)⟩
      rintro r V4 ⟨x, rfl, hO⟩
      have hxn := hO.n
      obtain ⟨cs, _, _, hle⟩ := id hO
      obtain ⟨ad5, ha5, c1, c2⟩ := own_ents hO (d := d) (by omega) (hz.mono hle)
      have hl := file_links hM hi
      obtain ⟨ad6, sq6, en6, ha6, hc6, hN6, hset, _⟩ := c2.setC (i := i) (by rw [entT_len]; omega)
      have e1 := entT_at (t := t) (l := insE (entsT t d) ⟨n, (i : Int)⟩) hid
      rw [e1] at hc6 hset
      obtain ⟨b1, b2⟩ := hset ((t.getD i default).links + 1) _ (inI64 (by omega) (by omega)) rfl
      rw [hE]
      exact ⟨x, rfl, fun _ => ⟨by omega, by omega, ad5, ha5, c1, by omega, by omega, ad6, ha6, _, cellsAt_nth hc6 1 rfl, inI64 (by omega) (by omega), by omega, by omega, ad6, ha6, b1, ⟨x, 0, rfl, rfl, b2.slR⟩, q3.trans b2.le⟩⟩
theorem refDrop_ok {s : Sl} {t : Tre} {i : Int} {V : View} (h : SlR V s t) : CallV Tryz.prog 30 ⟨[treV s, .int .i64 i]⟩ V fun r V' => outT V V' r (dropT t i) := by
  refine f30_x ?_
  unfold f30_n
  have hn := h.n
  refine fun _ _ => (mayTree_ok h).mono ?_
  rintro r V1 ⟨rfl, hV1⟩
  refine ⟨_, rfl, br_intro (fun hb => out_none (by decide) hV1 (by unfold dropT; rw [if_neg (by rw [not_t hb]; decide)])) (fun hb => ?_)⟩
  have hM := not_f hb
  have h12 := (mayT_all hM).1
  have hE : dropT t i = if 0 ≤ i ∧ i < 12 ∧ kindT t i.toNat = 1 ∧ (t.getD i.toNat default).links ≤ 0 then .ok (t.set i.toNat Nod.zero) else .error 18 := by unfold dropT; rw [if_pos hM]
  refine joinP_cut (fun q V' => V' = V1 ∧ q.1 = !decide (0 ≤ i ∧ i < 12 ∧ kindT t i.toNat = 1 ∧ (t.getD i.toNat default).links ≤ 0)) (br_intro (fun hr => ⟨rfl, ?_⟩) (fun hr => ?_)) ?_
  · rw [decide_eq_false]; · rfl
    rintro ⟨h0, h1, _⟩
    rw [decide_eq_false (by omega), decide_eq_false (by omega)] at hr; cases hr
  · have h0 : 0 ≤ i := by
      rcases Int.lt_or_le i 0 with h | h
      · rw [decide_eq_true h] at hr; cases hr
      · exact h
    rw [decide_eq_false (by omega)] at hr
    have h1 : i < 12 := by have := of_decide_eq_false hr; omega
    obtain ⟨ad, sq, en, ha, hc, hN⟩ := (h.mono hV1).nodN (i := i.toNat) (by omega)
    have hl := file_links hM (i := i.toNat) (by omega)
    refine ⟨h0, by omega, ad, ha, _, cellsAt_nth hc 0 rfl, br_intro (fun hk => ⟨rfl, ?_⟩) (fun hk => ⟨h0, by omega, ad, ha, _, cellsAt_nth hc 1 rfl, rfl, ?_⟩)⟩
    · have hk : ¬ kindT t i.toNat = 1 := of_decide_eq_false (not_t hk)
      rw [decide_eq_false (fun h => hk h.2.2.1)]; rfl
    · have hk : kindT t i.toNat = 1 := of_decide_eq_true (not_f hk)
      by_cases hl0 : (t.getD i.toNat default).links = 0
      · rw [decide_eq_true (show 0 ≤ i ∧ i < 12 ∧ kindT t i.toNat = 1 ∧ (t.getD i.toNat default).links ≤ 0 from ⟨h0, h1, hk, by omega⟩)]
        show (!decide _) = _
        rw [decide_eq_true hl0]
      · rw [decide_eq_false (show ¬ (0 ≤ i ∧ i < 12 ∧ kindT t i.toNat = 1 ∧ (t.getD i.toNat default).links ≤ 0) from fun h => by have := h.2.2.2; omega)]
        show (!decide _) = _
        rw [decide_eq_false hl0]
  · rintro ⟨q, ⟨⟩⟩ V2 ⟨rfl, hq⟩
    dsimp only [unc] at *
    refine br_intro (fun hb => out_none (by decide) hV1 ?_) (fun hb => ?_)
    · rw [hq] at hb
      rw [hE, if_neg (of_decide_eq_false (not_t hb))]
    · rw [hq] at hb
      have hc := of_decide_eq_true (not_f hb)
      rw [if_pos hc] at hE
      refine (refCopyT_ok (h.mono hV1) (mayT_lightT hM)).mono ?_
      rintro r V3 ⟨x, rfl, hO⟩
      have hxn := hO.n
      obtain ⟨ad2, ha2, a1, a2⟩ := hO.set (i := i.toNat) (by omega) (n := Nod.zero) (vs := [.int .i64 0, .int .i64 0, .int .i64 0, .slice none 0 0, .slice none 0 0]) fun _ _ => zeroN_rep
      rw [hE]
      exact ⟨x, rfl, fun _ => ⟨by omega, by omega, ad2, ha2, a1, ⟨x, 0, rfl, rfl, a2.slR⟩, hV1.trans a2.le⟩⟩
end Go.Proofs.YtdlgpolngnkiaaaGreatDoor

/- Contracts of the reference's calls on names: inside, renamed; TreeForms. -/
namespace Go.Proofs.YtdlgpolngnkiaaaGreatDoor
open Go
theorem refInside_ok {s : Sl} {t : Tre} {i f : Nat} {V : View} (h : SlR V s t) (hM : mayT t = true) (hi : i < 12) (hf : f < 12) (hki : kindT t i = 2) (hkf : kindT t f = 2) : CallV Tryz.prog 63 ⟨[treV s, .int .i64 i, .int .i64 f]⟩ V fun r V' => r = .bool (insideT t i f) ∧ V.Le V' := by
  refine f63_x ?_
  unfold f63_n
  have hn := h.n
  have hF := mayF hM
  have h12 := hF.len
  rw [insideT_iff hM hi hf, decide_eq_true hki, Bool.true_and]
  refine fun _ => (mayTree_ok h).mono ?_
  rintro r V1 ⟨rfl, hV1⟩
  rw [hM]
  refine ⟨_, rfl, br_intro (fun hb => ?_) (fun _ => (reached_ok (a := i) (h.mono hV1) h12 hF.may hi hki).mono ?_)⟩
  · rw [decide_eq_false (by omega), decide_eq_false (by omega)] at hb; cases hb
  rintro r V2 ⟨x, rfl, hx, hV2⟩
  have hxn : x.n = 12 := by rw [hx.n]; simp
  have q2 := hV1.trans hV2
  have hget : ∀ j : Nat, (hj : j < 12) → ∃ ad, x.a = some ad ∧ V2.cell? (ad.add (((j : Int)).toNat * 1)) = some (.bool (metB t i j && decide (kindT t j = 2))) := by
    intro j hj
    obtain ⟨ad3, hx3, ha3, hc3⟩ := hx.bool (x := (j : Int)) (by omega) (by omega)
    refine ⟨ad3, ha3, ?_⟩
    rw [hc3]
    have e : ((j : Int)).toNat = j := by omega
    simp [e]
  obtain ⟨ad, ha, hc⟩ := hget f hf
  rw [decide_eq_true hkf, Bool.and_true] at hc
  refine ⟨x, rfl, by omega, by omega, ad, ha, _, hc, br_intro (fun hm => ⟨by rw [hm], q2⟩) (fun hm => ?_)⟩
  rw [hm]
  refine loop1 (k := .int .i64) (fun (y : Int) V' => V' = V2 ∧ ∃ j : Nat, y = j ∧ j ≤ 12) (fun (y : Int) _ => 12 - y.toNat) ⟨rfl, 0, rfl, by omega⟩ ?_
  rintro (y : Int) V3 ⟨rfl, j, rfl, hj⟩
  refine br_intro (fun hlt => ?_) (fun _ => ⟨rfl, q2⟩)
  have hlt : j < 12 := by have := of_decide_eq_true hlt; omega
  obtain ⟨ad2, sq2, en2, ha2, hc2, hN2⟩ := (h.mono q2).nodN (i := j) (by omega)
  refine ⟨by omega, by omega, ad2, ha2, _, _, _, sq2, en2, hc2, fun _ => ?_⟩
  have hen := hN2.ents.n
  have helim := hN2.ents.lim
  refine loop1 (k := .int .i64) (fun (y : Int) V' => V' = V3 ∧ ∃ m : Nat, y = m ∧ m ≤ (t.getD j default).ents.length) (fun (y : Int) _ => (t.getD j default).ents.length - y.toNat) ⟨rfl, 0, rfl, by omega⟩ ?_
  rintro (y : Int) V4 ⟨rfl, m, rfl, hm4⟩
  refine br_intro (fun hltm => ?_) (fun _ => ⟨inI64 (by omega) (by omega), ⟨rfl, j + 1, by omega, by omega⟩, by omega⟩)
  have hltm : m < (t.getD j default).ents.length := by have := of_decide_eq_true hltm; omega
  obtain ⟨ad3, ha3, hc3, _⟩ := hN2.ents.entN hltm
  obtain ⟨ad4, ha4, hc4⟩ := hget j hlt
  refine ⟨by omega, by omega, ad3, ha3, _, _, hc3, fun _ => ⟨by omega, by omega, ad4, ha4, _, hc4, br_intro (fun hb => ?_) (fun _ => ⟨inI64 (by omega) (by omega), ⟨rfl, m + 1, by omega, by omega⟩, by omega⟩)⟩⟩
  exfalso
  have hmem : (t.getD j default).ents.getD m default ∈ entsT t j := by
    show (t.getD j default).ents.getD m default ∈ (t.getD j default).ents
    rw [getD_at hltm]; exact List.getElem_mem _
  cases hmj : metB t i j with
  | false => rw [hmj] at hb; cases hb
  | true =>
    have hq := hF.ent hmem
    rw [hmj, decide_eq_true hq.2.1] at hb
    have hb := of_decide_eq_true (show decide (((t.getD j default).ents.getD m default).node = (f : Int)) = true from hb)
    have := Reach.step (metB_iff.1 hmj) hmem
    rw [hb, Int.toNat_natCast] at this
    rw [metB_iff.2 this] at hm; cases hm
end Go.Proofs.YtdlgpolngnkiaaaGreatDoor

/- The contract of the reference's Rename. -/
namespace Go.Proofs.YtdlgpolngnkiaaaGreatDoor
open Go
theorem refRename_ok {s y : Sl} {t : Tre} {p q : ByteArray} {held : List Bool} {V : View} (h : SlR V s t) (hy : SlR V y held) (hp : p.size ≤ 9223372036854775807) (hq' : q.size ≤ 9223372036854775807) : CallV Tryz.prog 28 ⟨[treV s, .string p, .string q, .slice y.a y.n y.c]⟩ V fun r V' => outT V V' r (renameT t p q held) := by
  refine f28_x ?_
  unfold f28_n
  have hn := h.n
  refine fun _ _ => (refParent_ok h hp).mono ?_
  rintro r0 V1 ⟨rfl, hV1⟩
  cases hP : parentT t p with
  | error e =>
    rw [← hP, outP_err hP]
    exact ⟨_, _, _, rfl, br_intro (fun _ => out_none (par_err hP) hV1 (by unfold renameT; rw [hP])) (fun h => absurd (of_decide_eq_true (not_f h)) (par_err hP))⟩
  | ok z =>
    obtain ⟨d, n⟩ := z
    obtain ⟨ld, P⟩ := par_of hP
    have hM := P.may
    have hF := mayF hM
    have hd := P.d12
    have h12 := hF.len
    rw [← hP, outP_ok hP]
    obtain ⟨ad, sq, en, ha, hc, hN⟩ := (h.mono hV1).nodN (i := d) (by omega)
    refine ⟨_, _, _, rfl, br_intro (fun h => absurd h (by decide)) (fun _ => ⟨by omega, by omega, ad, ha, en, cellsAt_nth hc 4 rfl, (refAt_ok hN.ents).mono ?_⟩)⟩
    rintro r0 V2 ⟨rfl, rfl⟩
    have hi0 : atI (t.getD d default).ents n = atI (entsT t d) n := rfl
    rw [hi0]
    by_cases h0 : atI (entsT t d) n < 0
    · refine ⟨_, rfl, br_intro (fun _ => out_none (by decide) hV1 ?_) (fun h => absurd h0 (of_decide_eq_false h))⟩
      unfold renameT; rw [hP]; dsimp only; rw [if_pos h0]
    obtain ⟨k0, k1, k2, k3, xe, hxe, hxn, hxi⟩ := at_kind hM (d := d) (s := n) h0
    obtain ⟨i, hi⟩ : ∃ i : Nat, atI (entsT t d) n = i := ⟨(atI (entsT t d) n).toNat, by omega⟩
    rw [hi] at h0 k1 k2 k3 hxi ⊢
    rw [Int.toNat_natCast] at k3
    have hi12 : i < 12 := by omega
    refine ⟨_, rfl, br_intro (fun h => absurd (of_decide_eq_true h) h0) (fun _ => (refParent_ok (h.mono hV1) hq').mono ?_)⟩
    rintro r0 V3 ⟨rfl, hV3⟩
    have q3 := hV1.trans hV3
    cases hQ : parentT t q with
    | error e =>
      rw [← hQ, outP_err hQ]
      refine ⟨_, _, _, rfl, br_intro (fun _ => out_none (par_err hQ) q3 ?_) (fun h => absurd (of_decide_eq_true (not_f h)) (par_err hQ))⟩
      unfold renameT; rw [hP]; dsimp only; rw [hi, if_neg h0, hQ]
    | ok z =>
      obtain ⟨f, r⟩ := z
      obtain ⟨lf, Q⟩ := par_of hQ
      have hf := Q.d12
      rw [← hQ, outP_ok hQ]
      obtain ⟨ad2, sq2, en2, ha2, hc2, hN2⟩ := (h.mono q3).nodN (i := f) (by omega)
      refine ⟨_, _, _, rfl, br_intro (fun h => absurd h (by decide)) (fun _ => ⟨by omega, by omega, ad2, ha2, en2, cellsAt_nth hc2 4 rfl, (refAt_ok hN2.ents).mono ?_⟩)⟩
      rintro r0 V4 ⟨rfl, rfl⟩
      have hk0' : atI (t.getD f default).ents r = atI (entsT t f) r := rfl
      rw [hk0']
      have hmv := move_ents P Q (held := held) i
      have hE1 := E1_has P Q
      have hR : renameT t p q held = if atI (entsT t f) r = i then .ok t else if insideT t i f = true then .error 17 else
          if 0 ≤ atI (entsT t f) r ∧ replN (t.getD i default) (t.getD (atI (entsT t f) r).toNat default) ≠ 0 then .error (replN (t.getD i default) (t.getD (atI (entsT t f) r).toNat default)) else
          if 10 ≤ (entsT (moveT t d n i f r (atI (entsT t f) r) held) f).length then .error 14 else
          .ok (entT (moveT t d n i f r (atI (entsT t f) r) held) f (insE (entsT (moveT t d n i f r (atI (entsT t f) r) held) f) ⟨r, i⟩)) := by
        unfold renameT; rw [hP]; dsimp only; rw [hi, if_neg h0, hQ]; dsimp only; rw [Int.toNat_natCast]
      rw [hi] at hE1
      have hkat := Q.at
      have hkk : 0 ≤ atI (entsT t f) r → (atI (entsT t f) r).toNat ≠ f := fun h => cutd_self Q.may (by omega)
      have hkent : 0 ≤ atI (entsT t f) r → kindT t (atI (entsT t f) r).toNat ≠ 0 ∧ ∃ ye ∈ entsT t f, ye.node = atI (entsT t f) r := fun h => by
        obtain ⟨_, _, _, a, ye, b, _, c⟩ := at_kind Q.may (d := f) (s := r) (by omega)
        exact ⟨a, ye, b, c⟩
      have hmoveE : moveT t d n i f r (atI (entsT t f) r) held = if 0 ≤ atI (entsT t f) r then lessT (entT (entT t d (cutE (entsT t d) n)) f (cutE (entsT (entT t d (cutE (entsT t d) n)) f) r)) (atI (entsT t f) r).toNat held else entT t d (cutE (entsT t d) n) := rfl
      generalize hk : atI (entsT t f) r = k at *
      refine ⟨_, rfl, br_intro (fun he => ?_) (fun he => ?_)⟩
      · have he := of_decide_eq_true he
        refine (refCopyT_ok (h.mono q3) (mayT_lightT hM)).mono ?_
        rintro r0 V5 ⟨x, rfl, hO⟩
        rw [hR, if_pos he]
        exact ⟨x, rfl, ⟨x, 0, rfl, rfl, hO.slR⟩, q3.trans hO.le⟩
      have he := of_decide_eq_false he
      rw [if_neg he] at hR
      obtain ⟨ad3, sq3, en3, ha3, hc3, hN3⟩ := (h.mono q3).nodN (i := i) (by omega)
      refine ⟨by omega, by omega, ad3, ha3, _, cellsAt_nth hc3 0 rfl, joinP_cut (fun g V' => g.1 = insideT t i f ∧ V4.Le V') (br_intro (fun hb => (refInside_ok (h.mono q3) hM hi12 hf (of_decide_eq_true hb) Q.kind).mono ?_) (fun hb => ⟨?_, View.Le.refl _⟩)) ?_⟩
      · rintro r0 V5 ⟨rfl, hV5⟩
        exact ⟨_, rfl, rfl, hV5⟩
      · rw [insideT_iff hM hi12 hf]
        show false = (decide ((t.getD i default).kind = 2) && _)
        rw [hb]; rfl
      rintro ⟨g, ⟨⟩⟩ V5 ⟨hg5, hV5⟩
      dsimp only [unc] at *
      have q5 := q3.trans hV5
      refine br_intro (fun hin => out_none (by decide) q5 (by rw [hR, if_pos (by rw [← hg5]; exact hin)])) (fun hin => ?_)
      rw [if_neg (by rw [← hg5, hin]; decide)] at hR
      -- who stands there
      have hkn : 0 ≤ k → ∃ ad6 en6, ∃ sq6 : Sl, s.a = some ad6 ∧ cellsAt V5 (ad6.add (k.toNat * 5)) [.int .i64 (t.getD k.toNat default).kind, .int .i64 (t.getD k.toNat default).links, .int .i64 (t.getD k.toNat default).size, .slice sq6.a sq6.n sq6.c, .slice en6.a en6.n en6.c] ∧ (en6 : Sl).n = (t.getD k.toNat default).ents.length := fun hk0 => by
        obtain ⟨ad6, sq6, en6, ha6, hc6, hN6⟩ := (h.mono q5).nodN (i := k.toNat) (by omega)
        exact ⟨ad6, en6, sq6, ha6, hc6, hN6.ents.n⟩
      refine joinP_cut (fun g V' => g.1 = decide (0 ≤ k ∧ (t.getD i default).kind = 2 ∧ (t.getD k.toNat default).kind ≠ 2) ∧ V' = V5) (br_intro (fun hb => ?_) (fun hb => ⟨?_, rfl⟩)) ?_
      · have hk0 : 0 ≤ k := by
          cases hq : decide (0 ≤ k) with
          | true => exact of_decide_eq_true hq
          | false => rw [hq] at hb; cases hb
        rw [decide_eq_true hk0] at hb
        have hb : (t.getD i default).kind = 2 := of_decide_eq_true hb
        obtain ⟨ad6, en6, sq6, ha6, hc6, _⟩ := hkn hk0
        refine ⟨hk0, by clear hkn hkent; omega, ad6, ha6, _, cellsAt_nth hc6 0 rfl, ?_, rfl⟩
        show (!decide _) = _
        by_cases h2 : (t.getD k.toNat default).kind = 2
        · rw [decide_eq_true h2, decide_eq_false (fun h => h.2.2 h2)]; rfl
        · rw [decide_eq_false h2, decide_eq_true ⟨hk0, hb, h2⟩]; rfl
      · rw [decide_eq_false]
        rintro ⟨h1, h2, _⟩
        rw [decide_eq_true h1] at hb
        exact of_decide_eq_false hb h2
      rintro ⟨g, ⟨⟩⟩ V6 ⟨hg6, rfl⟩
      dsimp only [unc] at *
      refine br_intro (fun hb => out_none (by decide) q5 ?_) (fun hb => ?_)
      · rw [hg6] at hb
        have hb := of_decide_eq_true hb
        have : replN (t.getD i default) (t.getD k.toNat default) = 11 := by unfold replN; rw [if_pos hb.2]
        rw [hR, this, if_pos ⟨hb.1, by decide⟩]
      rw [hg6] at hb
      have hc1 := of_decide_eq_false hb
      refine joinP_cut (fun g V' => g.1 = decide (0 ≤ k ∧ (t.getD i default).kind ≠ 2 ∧ (t.getD k.toNat default).kind = 2) ∧ V' = V6) (br_intro (fun hb => ?_) (fun hb => ⟨?_, rfl⟩)) ?_
      · have hk0 : 0 ≤ k := by
          cases hq : decide (0 ≤ k) with
          | true => exact of_decide_eq_true hq
          | false => rw [hq] at hb; cases hb
        rw [decide_eq_true hk0] at hb
        have hb : ¬ (t.getD i default).kind = 2 := of_decide_eq_false (not_t hb)
        obtain ⟨ad6, en6, sq6, ha6, hc6, _⟩ := hkn hk0
        refine ⟨hk0, by clear hkn hkent; omega, ad6, ha6, _, cellsAt_nth hc6 0 rfl, ?_, rfl⟩
        exact decide_eq_decide.2 ⟨fun h => ⟨hk0, hb, h⟩, fun h => h.2.2⟩
      · rw [decide_eq_false]
        rintro ⟨h1, h2, _⟩
        rw [decide_eq_true h1] at hb
        exact h2 (of_decide_eq_true (not_f hb))
      rintro ⟨g, ⟨⟩⟩ V7 ⟨hg7, rfl⟩
      dsimp only [unc] at *
      refine br_intro (fun hb => out_none (by decide) q5 ?_) (fun hb => ?_)
      · rw [hg7] at hb
        have hb := of_decide_eq_true hb
        have : replN (t.getD i default) (t.getD k.toNat default) = 10 := by unfold replN; rw [if_neg (fun h => hb.2.1 h.1), if_pos hb.2]
        rw [hR, this, if_pos ⟨hb.1, by decide⟩]
      rw [hg7] at hb
      have hc2' := of_decide_eq_false hb
      refine joinP_cut (fun g V' => g.1 = decide (0 ≤ k ∧ (t.getD i default).kind = 2 ∧ 0 < (t.getD k.toNat default).ents.length) ∧ V' = V7) (br_intro (fun hb => ?_) (fun hb => ⟨?_, rfl⟩)) ?_
      · have hk0 : 0 ≤ k := by
          cases hq : decide (0 ≤ k) with
          | true => exact of_decide_eq_true hq
          | false => rw [hq] at hb; cases hb
        rw [decide_eq_true hk0] at hb
        have hb : (t.getD i default).kind = 2 := of_decide_eq_true hb
        obtain ⟨ad6, en6, sq6, ha6, hc6, hen6⟩ := hkn hk0
        refine ⟨hk0, by clear hkn hkent; omega, ad6, ha6, en6, cellsAt_nth hc6 4 rfl, ?_, rfl⟩
        exact decide_eq_decide.2 ⟨fun h => ⟨hk0, hb, by clear hkn hkent; omega⟩, fun h => by have := h.2.2; clear hkn hkent; omega⟩
      · rw [decide_eq_false]
        rintro ⟨h1, h2, _⟩
        rw [decide_eq_true h1] at hb
        exact of_decide_eq_false hb h2
      rintro ⟨g, ⟨⟩⟩ V8 ⟨hg8, rfl⟩
      dsimp only [unc] at *
      refine br_intro (fun hb => out_none (by decide) q5 ?_) (fun hb => ?_)
      · rw [hg8] at hb
        have hb := of_decide_eq_true hb
        have : replN (t.getD i default) (t.getD k.toNat default) = 12 := by
          unfold replN
          rw [if_neg (fun h => hc1 ⟨hb.1, h⟩), if_neg (fun h => h.1 hb.2.1), if_pos hb.2.2]
        rw [hR, this, if_pos ⟨hb.1, by decide⟩]
      rw [hg8] at hb
      have hc3' := of_decide_eq_false hb
      -- nothing stands in the way
      have hrep : 0 ≤ k → replN (t.getD i default) (t.getD k.toNat default) = 0 := fun hk0 => by
        unfold replN
        rw [if_neg (fun h => hc1 ⟨hk0, h⟩), if_neg (fun h => hc2' ⟨hk0, h⟩), if_neg]
        intro hl
        by_cases h2 : (t.getD i default).kind = 2
        · exact hc3' ⟨hk0, h2, hl⟩
        · have hk2 : kindT t k.toNat ≠ 2 := fun h => hc2' ⟨hk0, h2, h⟩
          have := file_noents hF (i := k.toNat) (by (try clear hkn hkent); omega) hk2
          unfold entsT at this
          rw [this] at hl
          simp at hl
      rw [if_neg (fun h => h.2 (hrep h.1))] at hR
      refine (refCopyT_ok (h.mono q5) (mayT_lightT hM)).mono ?_
      rintro r0 V9 ⟨x, rfl, hO⟩
      have q9 := q5.trans hO.le
      have hxn9 := hO.n
      obtain ⟨ad7, sq7, en7, ha7, hc7, hN7, _⟩ := hO.setC (i := d) (by (try clear hkn hkent); omega)
      refine ⟨x, rfl, fun _ => ⟨trivial, V9, View.Le.refl _, by (try clear hkn hkent); omega, by (try clear hkn hkent); omega, ad7, ha7, en7, cellsAt_nth hc7 4 rfl, (hO.call (refWithout_ok hN7.ents)).mono ?_⟩⟩
      rintro r0 V10 ⟨U10, ⟨z, e, rfl, hz⟩, hU10, hV10, hO10⟩
      have hwd := without_par P (by rw [hi]; exact h0)
      have hwd : withoutE (t.getD d default).ents n = .ok (cutE (entsT t d) n) := hwd
      rw [hwd] at hz
      obtain ⟨rfl, hz⟩ := hz
      obtain ⟨ad8, ha8, c1, c2⟩ := own_ents hO10 (d := d) (by (try clear hkn hkent); omega) (hz.mono hU10)
      refine ⟨z, _, rfl, hV10, by (try clear hkn hkent); omega, by (try clear hkn hkent); omega, ad8, ha8, c1, ?_⟩
      have q11 := q5.trans c2.le
      have hln : (entT t d (cutE (entsT t d) n)).length = 12 := by rw [entT_len, h12]
      generalize hV11 : V10.sets ((ad8.add (((d : Int)).toNat * 5)).add 4) [.slice z.a z.n z.c] = V11 at *
      have c2 : OwnT V8 V11 x (entT t d (cutE (entsT t d) n)) := by rw [← hV11]; exact c2
      have hxn11 := c2.n
      refine joinP_cut (fun _ V' => OwnT V8 V' x (moveT t d n i f r k held)) (br_intro (fun hk0 => ?_) (fun hk0 => ?_)) ?_
      · have hk0 := of_decide_eq_true hk0
        have hkf := hkk hk0
        have hw : withoutE (entsT (entT t d (cutE (entsT t d) n)) f) r = .ok (cutE (entsT (entT t d (cutE (entsT t d) n)) f) r) := by
          have e1 : entsT (entT t d (cutE (entsT t d) n)) f = E1 t d n f := by rw [entT_ents (by (try clear hkn hkent); omega)]; rfl
          rw [e1]
          exact without_ok_of (E1_may P Q) (by rw [hE1 he, decide_eq_true hk0])
        obtain ⟨ad12, sq12, en12, ha12, hc12, hN12, _⟩ := c2.setC (i := f) (by (try clear hkn hkent); omega)
        refine ⟨trivial, V11, View.Le.refl _, by (try clear hkn hkent); omega, by (try clear hkn hkent); omega, ad12, ha12, en12, cellsAt_nth hc12 4 rfl, (c2.call (refWithout_ok hN12.ents)).mono ?_⟩
        rintro r0 V12 ⟨U12, ⟨z2, e2, rfl, hz2⟩, hU12, hV12, hO12⟩
        have hw' : withoutE ((entT t d (cutE (entsT t d) n)).getD f default).ents r = .ok (cutE (entsT (entT t d (cutE (entsT t d) n)) f) r) := hw
        rw [hw'] at hz2
        obtain ⟨rfl, hz2⟩ := hz2
        obtain ⟨ad13, ha13, d1, d2⟩ := own_ents hO12 (d := f) (by (try clear hkn hkent); omega) (hz2.mono hU12)
        have hxn13 := d2.n
        rw [entT_len] at hxn13
        refine ⟨z2, _, rfl, hV12, by (try clear hkn hkent); omega, by (try clear hkn hkent); omega, ad13, ha13, d1, joinP_cut (fun _ V' => OwnT V8 V' x (moveT t d n i f r k held)) (br_intro (fun hdir => ?_) (fun hdir => ?_)) ?_⟩
        · have hdir : (t.getD i default).kind = 2 := of_decide_eq_true hdir
          have hk2 : (t.getD k.toNat default).kind = 2 := Classical.byContradiction fun h => hc1 ⟨hk0, hdir, h⟩
          have hemp : (t.getD k.toNat default).ents = [] := List.eq_nil_of_length_eq_zero (by
            apply Classical.byContradiction
            intro h
            exact hc3' ⟨hk0, hdir, by (try clear hkn hkent); omega⟩)
          have hkd : k.toNat ≠ d := fun e => by
            have : xe ∈ (t.getD d default).ents := hxe
            rw [← e, hemp] at this; cases this
          obtain ⟨ad14, ha14, b1, b2⟩ := d2.set (i := k.toNat) (by rw [entT_len]; omega) (n := Nod.zero) (vs := [.int .i64 0, .int .i64 0, .int .i64 0, .slice none 0 0, .slice none 0 0]) fun _ _ => zeroN_rep
          refine ⟨hk0, by (try clear hkn hkent); omega, ad14, ha14, b1, ?_⟩
          have e3 : moveT t d n i f r k held = (entT (entT t d (cutE (entsT t d) n)) f (cutE (entsT (entT t d (cutE (entsT t d) n)) f) r)).set k.toNat Nod.zero := by
            rw [hmoveE, if_pos hk0]
            unfold lessT
            rw [if_neg]
            rintro ⟨h1, _⟩
            unfold kindT at h1
            rw [entT_at hkf, entT_at hkd] at h1
            omega
          rw [e3]; exact b2
        · have hdir : ¬ (t.getD i default).kind = 2 := of_decide_eq_false hdir
          have hk1 : (t.getD k.toNat default).kind = 1 := by
            have a1 := kind_of (hF.at (i := k.toNat) (by (try clear hkn hkent); omega))
            have a2 : (t.getD k.toNat default).kind ≠ 0 := (hkent hk0).1
            have a3 : ¬ (t.getD k.toNat default).kind = 2 := fun h => hc2' ⟨hk0, hdir, h⟩
            omega
          have hkd : k.toNat ≠ d := fun e => by
            have : (t.getD d default).kind = 2 := P.kind
            rw [← e] at this; omega
          have hl1 : 1 ≤ (t.getD k.toNat default).links := by
            have h1 := hF.file k.toNat (by (try clear hkn hkent); omega) hk1
            obtain ⟨_, ye, h2, h3⟩ := hkent hk0
            have := named_one (x := ((k.toNat : Nat) : Int)) h2 (by (try clear hkn hkent); omega)
            omega
          have e1 : (entT (entT t d (cutE (entsT t d) n)) f (cutE (entsT (entT t d (cutE (entsT t d) n)) f) r)).getD k.toNat default = t.getD k.toNat default := by rw [entT_at hkf, entT_at hkd]
          have hkn1 : 1 ≤ k := by (try clear hkn hkent); omega
          rw [int_nat hkn1]
          refine (refLess_ok d2 (i := k.toNat) (by rw [entT_len]; clear hkn hkent; omega) (by unfold kindT; rw [e1]; exact hk1) (by rw [e1]; exact hl1) (hy.mono q5)).mono ?_
          rintro r0 V14 ⟨rfl, h14⟩
          refine ⟨rfl, ?_⟩
          rw [hmoveE, if_pos hk0]; exact h14
        · rintro ⟨⟩ V14 h14; exact h14
      · have hk0 := of_decide_eq_false hk0
        rw [hmoveE, if_neg hk0]; exact c2
      · rintro ⟨⟩ V12 h12'
        have h12' : OwnT V8 V12 x (moveT t d n i f r k held) := h12'
        have hmay : mayL (entsT (moveT t d n i f r k held) f) = true := by
          rw [hmv]; split
          · exact mayL_cut (E1_may P Q) r
          · exact E1_may P Q
        have hhas : hasE (entsT (moveT t d n i f r k held) f) r = false := by
          rw [hmv]; split
          · exact cut_has _ _
          · rename_i hk0; rw [hE1 he, decide_eq_false hk0]
        have hwith : withE (entsT (moveT t d n i f r k held) f) ⟨r, i⟩ = if 10 ≤ (entsT (moveT t d n i f r k held) f).length then .error 14 else .ok (insE (entsT (moveT t d n i f r k held) f) ⟨r, i⟩) := by
          rw [with_ok_of hmay (sole_of Q.sole (by (try clear hkn hkent); omega) hi12), if_neg (by show ¬ hasE _ r = true; rw [hhas]; decide)]
        have hxn12 := h12'.n
        rw [move_len] at hxn12
        have hrlen := Q.size
        obtain ⟨ad15, sq15, en15, ha15, hc15, hN15, _⟩ := h12'.setC (i := f) (by rw [move_len]; omega)
        refine ⟨by (try clear hkn hkent); omega, by (try clear hkn hkent); omega, ad15, ha15, en15, cellsAt_nth hc15 4 rfl, (h12'.call (refWith_ok hN15.ents (by (try clear hkn hkent); omega) (inI64 (by (try clear hkn hkent); omega) (by (try clear hkn hkent); omega)))).mono ?_⟩
        rintro r0 V16 ⟨U16, ⟨z3, e3, rfl, hz3⟩, hU16, hV16, hO16⟩
        have q16 := q5.trans hO16.le
        have hwith : withE ((moveT t d n i f r k held).getD f default).ents ⟨r, (i : Int)⟩ = if 10 ≤ (entsT (moveT t d n i f r k held) f).length then .error 14 else .ok (insE (entsT (moveT t d n i f r k held) f) ⟨r, i⟩) := hwith
        rw [hwith] at hz3
        by_cases hfull : 10 ≤ (entsT (moveT t d n i f r k held) f).length
        · rw [if_pos hfull] at hR hz3
          obtain ⟨rfl, _⟩ := hz3
          exact ⟨z3, _, rfl, br_intro (fun _ => out_none (by decide) q16 hR) (fun h => absurd h (by decide))⟩
        · rw [if_neg hfull] at hR hz3
          obtain ⟨rfl, hz3⟩ := hz3
          obtain ⟨ad17, ha17, f1, f2⟩ := own_ents hO16 (d := f) (by rw [move_len]; omega) (hz3.mono hU16)
          rw [hR]
          exact ⟨z3, _, rfl, br_intro (fun h => absurd h (by decide)) (fun _ => ⟨by (try clear hkn hkent); omega, by (try clear hkn hkent); omega, ad17, ha17, f1, ⟨x, 0, rfl, rfl, f2.slR⟩, q5.trans f2.le⟩)⟩
theorem shall_ok {s y : Sl} {t : Tre} {c : Stp} {V : View} (h : SlR V s t) (hy : SlR V y c.held) (h1 : c.path.size ≤ 9223372036854775807) (h2 : c.to_.size ≤ 9223372036854775807) : CallV Tryz.prog 9 ⟨[treV s, .agg ⟨[.int .i64 c.do_, .int .i64 c.n, .string c.path, .string c.to_, .slice y.a y.n y.c]⟩]⟩ V fun r V' => outT V V' r (stepT t c) := by
  refine f9_x ?_
  unfold f9_n
  intro _ _ _
  refine br_intro (fun b0 => ?_) (fun b0 => br_intro (fun b1 => ?_) (fun b1 => br_intro (fun b2 => ?_) (fun b2 => br_intro (fun b3 => ?_) (fun b3 => br_intro (fun b4 => ?_) (fun b4 => br_intro (fun b5 => ?_) (fun b5 => ?_))))))
  · have e : stepT t c = makesT t c.path 1 := by unfold stepT; rw [if_pos (of_decide_eq_true b0)]
    rw [e]; exact (refCreate_ok h h1).mono fun r V' hr => out_ret hr
  · have e : stepT t c = makesT t c.path 2 := by unfold stepT; rw [if_neg (of_decide_eq_false b0), if_pos (of_decide_eq_true b1)]
    rw [e]; exact (refMkdir_ok h h1).mono fun r V' hr => out_ret hr
  · have e : stepT t c = unlinkT t c.path c.held := by unfold stepT; rw [if_neg (of_decide_eq_false b0), if_neg (of_decide_eq_false b1), if_pos (of_decide_eq_true b2)]
    rw [e]; exact (refUnlink_ok h hy h1).mono fun r V' hr => out_ret hr
  · have e : stepT t c = rmdirT t c.path := by unfold stepT; rw [if_neg (of_decide_eq_false b0), if_neg (of_decide_eq_false b1), if_neg (of_decide_eq_false b2), if_pos (of_decide_eq_true b3)]
    rw [e]; exact (refRmdir_ok h h1).mono fun r V' hr => out_ret hr
  · have e : stepT t c = renameT t c.path c.to_ c.held := by unfold stepT; rw [if_neg (of_decide_eq_false b0), if_neg (of_decide_eq_false b1), if_neg (of_decide_eq_false b2), if_neg (of_decide_eq_false b3), if_pos (of_decide_eq_true b4)]
    rw [e]; exact (refRename_ok h hy h1 h2).mono fun r V' hr => out_ret hr
  · have e : stepT t c = linkT t c.path c.to_ := by unfold stepT; rw [if_neg (of_decide_eq_false b0), if_neg (of_decide_eq_false b1), if_neg (of_decide_eq_false b2), if_neg (of_decide_eq_false b3), if_neg (of_decide_eq_false b4), if_pos (of_decide_eq_true b5)]
    rw [e]; exact (refLink_ok h h1 h2).mono fun r V' hr => out_ret hr
  · have e : stepT t c = dropT t c.n := by unfold stepT; rw [if_neg (of_decide_eq_false b0), if_neg (of_decide_eq_false b1), if_neg (of_decide_eq_false b2), if_neg (of_decide_eq_false b3), if_neg (of_decide_eq_false b4), if_neg (of_decide_eq_false b5)]
    rw [e]; exact (refDrop_ok h).mono fun r V' hr => out_ret hr
theorem treeForms_ok {s y : Sl} {t : Tre} {l : List Stp} {V : View} (h : SlR V s t) (hy : SlR V y l) (hg : Glo V) : CallV Tryz.prog 3 ⟨[treV s, .slice y.a y.n y.c]⟩ V fun r V' => r = .bool true ∧ V.Le V' := by
  refine f3_x ?_
  unfold f3_n
  have hyn := hy.n; have hylim := hy.lim
  refine fun _ => joinP_cut (fun q V' => V' = V) ((light15_ok h).mono ?_) ?_
  · rintro r V1 ⟨x, rfl, _, _, _, rfl⟩
    refine ⟨_, rfl, br_intro (fun _ => rfl) (fun _ => (heavy_ok hy).mono ?_)⟩
    rintro r V2 ⟨x2, rfl, _, _, rfl⟩
    exact ⟨_, rfl, rfl⟩
  rintro ⟨q, ⟨⟩⟩ V1 hV1
  have hV1 : V1 = V := hV1
  subst hV1
  dsimp only [unc] at *
  refine br_intro (fun _ => awake19J (View.Le.refl _) hg fun V' hV => ⟨rfl, hV⟩) (fun hb => ?_)
  refine loop2 (k := .int .i64) (l := .sl) (fun (j : Int) (x : Sl) V' => V1.Le V' ∧ ∃ i : Nat, j = i ∧ i ≤ l.length ∧ ∃ u : Tre, SlR V' x u) (fun (j : Int) _ _ => l.length - j.toNat) ⟨View.Le.refl _, 0, rfl, by omega, t, h⟩ ?_
  rintro (j : Int) x V2 ⟨hV2, i, rfl, hi, u, hu⟩
  refine br_intro (fun hlt => ?_) (fun _ => awake19J hV2 (hg.mono hV2) fun V' hV => ⟨rfl, hV⟩)
  have hlt : i < l.length := by have := of_decide_eq_true hlt; omega
  obtain ⟨ad, z, ha, hc, _, s1, s2, hz⟩ := (hy.mono hV2).stp hlt
  refine ⟨by omega, by omega, ad, ha, _, _, _, _, z, hc, fun _ => (does_ok hu hz s1 s2 (hg.mono hV2)).mono ?_⟩
  rintro r V3 ⟨⟨x3, e3, rfl, h3⟩, hV3⟩
  have q3 := hV2.trans hV3
  refine ⟨x3, e3, rfl, fun _ => (shall_ok (hu.mono hV3) (hz.mono hV3) s1 s2).mono ?_⟩
  rintro r V4 ⟨⟨x4, e4, rfl, h4⟩, hV4⟩
  have q4 := q3.trans hV4
  obtain ⟨heq, v, hv3, hv4⟩ : e3 = e4 ∧ ∃ v : Tre, SlR V3 x3 v ∧ SlR V4 x4 v := by
    cases hs : stepT u l[i] with
    | error c =>
      rw [hs] at h3 h4
      exact ⟨h3.1.trans h4.1.symm, [], h3.2.2, h4.2.2⟩
    | ok v =>
      rw [hs] at h3 h4
      exact ⟨h3.1.trans h4.1.symm, v, h3.2, h4.2⟩
  subst heq
  refine ⟨x4, e3, rfl, fun _ => joinP_cut (fun g V' => g.1 = false ∧ V' = V4) (br_intro (fun hb => absurd hb (by simp)) (fun _ => (refSameT_ok (hv3.mono hV4) hv4).mono ?_)) ?_⟩
  · rintro r V5 ⟨rfl, rfl⟩
    exact ⟨_, rfl, by simp, rfl⟩
  rintro ⟨g, ⟨⟩⟩ V5 ⟨hg5, rfl⟩
  dsimp only [unc] at *
  subst hg5
  refine br_intro (fun h => absurd h (by decide)) (fun _ => joinP_cut (fun g V' => V' = V5 ∧ ∃ w : Tre, SlR V5 g.1 w) (br_intro (fun _ => ⟨rfl, v, hv4⟩) (fun _ => ⟨rfl, u, (hu.mono hV3).mono hV4⟩)) ?_)
  rintro ⟨g, ⟨⟩⟩ V6 ⟨rfl, w, hw⟩
  dsimp only [unc] at *
  exact ⟨inI64 (by omega) (by omega), ⟨q4, i + 1, by omega, by omega, w, hw⟩, by omega⟩
end Go.Proofs.YtdlgpolngnkiaaaGreatDoor

/- How rows and trees come in. -/
namespace Go.Proofs.YtdlgpolngnkiaaaGreatDoor
open Go Go.RowKit Go.ChangeShapes Go.WideShapes
section
variable {H : Type} {enc : TypeId × Value → H} {P : Program} {w : World} {base b0 : Nat} {sp : Nat → Bool} {held : Bool} {r : Go.Reach} {v : Value} {d : DataW H} {ps : List MemPlace}
theorem in_slice {α : Type} [Rep α] {t e : TypeId} (ht : P.underlying t = some (.slice e)) (hT : TrodRep P (List α) t) (hv : Value.okWide P w r b0 t v) (hd : DataW.Trod enc P w base sp held t v d ps) :
    ∃ (s : Sl) (l : List α), v = .slice s.a s.n s.c ∧ SlR (View.all w) s l := by
  obtain ⟨a, len, cap, rfl⟩ := okWide_slice ht hv
  obtain ⟨fuel, hf⟩ := hd
  obtain ⟨l, s, he, hs⟩ := hT.of hf
  simp [Value.cells] at he
  exact ⟨s, l, by rw [he.1, he.2.1, he.2.2], hs⟩
theorem in_tree {α : Type} [Rep α] {t te : TypeId} {fs : Array Field} (ht : P.underlying t = some (.struct fs)) (h0 : fieldX P t 0 = some (0, te)) (hc : P.cellsOf t = 1) (hce : P.cellsOf te = 1) (hT : TrodRep P (List α) te) (hv : Value.okWide P w r b0 t v) (hd : DataW.Trod enc P w base sp held t v d ps) :
    ∃ (s : Sl) (l : List α), v = .agg ⟨[.slice s.a s.n s.c]⟩ ∧ SlR (View.all w) s l := by
  obtain ⟨cs, rfl, hsz⟩ := okWide_struct ht hv
  obtain ⟨fuel, hf⟩ := hd
  obtain ⟨hl, n, y, g⟩ := trod_field h0 hf
  obtain ⟨cs⟩ := cs
  rw [hc] at hsz hl
  match cs, hsz with
  | [c], _ =>
    rw [hce] at g
    obtain ⟨l, s, he, hs⟩ := hT.of g
    simp [Value.cells] at he
    exact ⟨s, l, by rw [he], hs⟩
end
end Go.Proofs.YtdlgpolngnkiaaaGreatDoor

/- How steps come in. -/
namespace Go.Proofs.YtdlgpolngnkiaaaGreatDoor
open Go Go.RowKit Go.ChangeShapes Go.WideShapes
theorem trodRep_bool {P : Program} {t : TypeId} (ht : P.underlying t = some .bool) : TrodRep P Bool t := ⟨fun h => by
  obtain ⟨b, hc, _⟩ := DataW.trod_bool ht h
  exact ⟨b, hc⟩⟩
theorem trodRep_stp {P : Program} {t ti ts tb : TypeId} (h0 : fieldX P t 0 = some (0, ti)) (h1 : fieldX P t 1 = some (1, ti)) (h2 : fieldX P t 2 = some (2, ts)) (h3 : fieldX P t 3 = some (3, ts)) (h4 : fieldX P t 4 = some (4, tb))
    (hc : P.cellsOf t = 5) (hci : P.cellsOf ti = 1) (hcs : P.cellsOf ts = 1) (hcb : P.cellsOf tb = 1) (hi : P.underlying ti = some (.int .i64)) (hs : P.underlying ts = some .string) (hb : TrodRep P (List Bool) tb) : TrodRep P Stp t := ⟨fun {H enc w base sp held fuel cs x} h => by
  obtain ⟨hl, n0, y0, g0⟩ := trod_field h0 h
  obtain ⟨_, n1, y1, g1⟩ := trod_field h1 h
  obtain ⟨_, n2, y2, g2⟩ := trod_field h2 h
  obtain ⟨_, n3, y3, g3⟩ := trod_field h3 h
  obtain ⟨_, n4, y4, g4⟩ := trod_field h4 h
  rw [hc] at hl
  match cs, hl with
  | [a, b, c, d, e], _ =>
    rw [hci] at g0 g1
    rw [hcs] at g2 g3
    rw [hcb] at g4
    obtain ⟨m0, e0, w0⟩ := (trodRep_int hi).of g0
    obtain ⟨m1, e1, w1⟩ := (trodRep_int hi).of g1
    obtain ⟨m2, e2, w2⟩ := (trodRep_string hs).of g2
    obtain ⟨m3, e3, w3⟩ := (trodRep_string hs).of g3
    obtain ⟨l4, s4, e4, w4⟩ := hb.of g4
    simp at e0 e1 e2 e3 e4
    exact ⟨⟨m0, m1, m2, m3, l4⟩, s4, by rw [e0, e1, e2, e3, e4], w1, w2, w3, w4⟩⟩
theorem boolsIn : TrodRep Tryz.prog (List Bool) 29 := trodRep_slice (e := 4) Tryz.underlying29 (by kernel_rfl) (trodRep_bool Tryz.underlying4)
theorem stpIn : TrodRep Tryz.prog Stp 31 := trodRep_stp (ti := 3) (ts := 9) (tb := 29) (by kernel_rfl) (by kernel_rfl) (by kernel_rfl) (by kernel_rfl) (by kernel_rfl) (by kernel_rfl) (by kernel_rfl) (by kernel_rfl) (by kernel_rfl) Tryz.underlying3 Tryz.underlying9 boolsIn
theorem stpsIn : TrodRep Tryz.prog (List Stp) 25 := trodRep_slice (e := 31) Tryz.underlying25 (by kernel_rfl) stpIn
end Go.Proofs.YtdlgpolngnkiaaaGreatDoor
