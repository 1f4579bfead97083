/- Texts joined: DoneLaw, DoneOk, WriteOk, TruncOk, ObT, NewHOk, Mv, HandOk, Hand2Ok, ModLaw, Tr6Ok, Tr5Law, ModOk, Mod2Ok, Mod3Ok, Mod4Ok, Mod5Law, Mod5Ok, Mod6Ok, KeepLaw, Ref6Ok, Ref7Ok, Ref8Ok, Ref9Ok, RefAOk, RefBOk, RefCOk, RmOk, Rm2Ok, Rm3Ok, Rm4Ok, Rm5Ok, Rm6Ok, Awk22Ok, Plays22Ok, LooksOk, SpaceOk, RestOk, ListOk, OthLaw, Oth2Law, OthOk, MapC, CloneOk, CopOk22, In, CalIn. -/
import Derived.Test.YtoogangnldppaaaGreatDoorPk4
import Derived.Test.YtoogangnldppaaaGreatDoorSoundC
import Derived.Test.YtoogangnldppaaaGreatDoorPk3
import Derived.Shelf.SlMaps.Clone
import Derived.Shelf.SlGeneric
import Derived.Ground.SlmcProg
import Derived.Test.YtoogangnldppaaaGreatDoorProg
import Derived.Test.YtoogangnldppaaaGreatDoorPk1
set_option linter.unusedVariables false
/- Pages that were written: a tree that may be stays one. Plain laws. -/
namespace Go.Proofs.YtoogangnldppaaaGreatDoor
open Go
/-- Of a file but its Size and its Seqs nothing turns. -/
theorem file_set_may {t : Tre} (hM : mayT t = true) {k : Nat} (hk : k < 12) (hkk : kindT t k = 1) {n : Nod} (h1 : n.kind = 1) (h2 : n.links = (t.getD k default).links) (hm : mayN n = true) (ha : apartL (allS (t.set k n)) = true) : mayT (t.set k n) = true := by
  have hF := mayF hM
  have h12 := hF.len
  have hemp := file_noents hF hk (by omega)
  have hfi := hF.file k hk hkk
  have hne : n.ents = [] := by
    unfold mayN at hm
    rw [if_neg (by omega), if_pos h1] at hm
    unfold fileB at hm
    simp only [Bool.and_eq_true, decide_eq_true_eq] at hm
    exact List.length_eq_zero_iff.1 hm.1.2
  have hat : ∀ j, (t.set k n).getD j default = if j = k then n else t.getD j default := fun j => getD_set (by omega)
  have hkj : ∀ j, kindT (t.set k n) j = kindT t j := by
    intro j
    unfold kindT; rw [hat]
    split
    · rename_i e; subst e; rw [h1]; exact hkk.symm
    · rfl
  have hents : ∀ j, entsT (t.set k n) j = entsT t j := by
    intro j
    unfold entsT; rw [hat]
    split
    · rename_i e; subst e; rw [hne]; exact hemp.symm
    · rfl
  have hnm : ∀ x : Int, namedT (t.set k n) x = namedT t x := by
    intro x
    have h1 := named_set (x := x) (t := t) (k := k) (n := n) (by omega)
    rw [hemp, hne] at h1
    omega
  have hul : (t.set k n).length = 12 := by simp [h12]
  refine mayT_of ⟨hul, all_at hul fun j hj => ?_, by rw [hkj]; exact hF.top, fun j hj hkj2 => ?_, fun j hj hkj1 => ?_, fun j hj hkj0 => ?_⟩ ha
  · rw [hat]; split
    · exact hm
    · exact hF.at hj
  · rw [hkj] at hkj2
    obtain ⟨h1, h2⟩ := hF.dir j hj hkj2
    exact ⟨reach_grow (fun p e he => ⟨e, by rw [hents]; exact he, rfl⟩) h1, by rw [hnm]; exact h2⟩
  · rw [hkj] at hkj1
    rw [hnm, hat]
    split
    · rename_i e; subst e; rw [h2]; exact hF.file j hj hkj1
    · exact hF.file j hj hkj1
  · rw [hkj] at hkj0
    rw [hnm]; exact hF.none j hj hkj0
theorem nodup_setF {f : Int → Bool} : ∀ {l : List Int} {i : Nat} {s : Int}, (l.filter f).Nodup → s ∉ l → ((l.set i s).filter f).Nodup
  | [], i, s, h, _ => by simp
  | x :: l, 0, s, h, hs => by
    have hl : (l.filter f).Nodup := by
      rw [List.filter_cons] at h
      split at h
      · exact (List.nodup_cons.1 h).2
      · exact h
    rw [List.set_cons_zero, List.filter_cons]
    split
    · exact List.nodup_cons.2 ⟨fun h => hs (List.mem_cons_of_mem _ (List.mem_filter.1 h).1), hl⟩
    · exact hl
  | x :: l, i + 1, s, h, hs => by
    rw [List.mem_cons, not_or] at hs
    rw [List.set_cons_succ, List.filter_cons]
    rw [List.filter_cons] at h
    split at h
    · rename_i hx
      rw [if_pos hx]
      have h := List.nodup_cons.1 h
      refine List.nodup_cons.2 ⟨fun hm => ?_, nodup_setF h.2 hs.2⟩
      have hm := List.mem_filter.1 hm
      rcases List.mem_or_eq_of_mem_set hm.1 with h3 | h3
      · exact h.1 (List.mem_filter.2 ⟨h3, hx⟩)
      · exact hs.1 h3.symm
    · rename_i hx
      rw [if_neg hx]
      exact nodup_setF h hs.2
/-- A Seq of a file, set. -/
def putS (t : Tre) (k : Nat) (p : Nat) (s : Int) : Tre := t.set k { t.getD k default with seqs := (t.getD k default).seqs.set p s }
theorem allS_put : ∀ {t : Tre} {k p : Nat} {s : Int}, k < t.length → p < (t.getD k default).seqs.length → ∃ o, allS (putS t k p s) = (allS t).set o s
  | [], _, _, _, h, _ => absurd h (by simp)
  | m :: t, 0, p, s, _, hp => by
    refine ⟨p, ?_⟩
    have hp : p < m.seqs.length := by simpa using hp
    show m.seqs.set p s ++ allS t = (m.seqs ++ allS t).set p s
    rw [List.set_append_left _ _ hp]
  | m :: t, k + 1, p, s, h, hp => by
    obtain ⟨o, ho⟩ := allS_put (t := t) (k := k) (p := p) (s := s) (by simpa using h) (by simpa using hp)
    refine ⟨m.seqs.length + o, ?_⟩
    have e : putS (m :: t) (k + 1) p s = m :: putS t k p s := by simp [putS]
    rw [e]
    show m.seqs ++ allS (putS t k p s) = (m.seqs ++ allS t).set (m.seqs.length + o) s
    rw [ho, List.set_append_right _ _ (by omega)]
    congr 2; omega
theorem putS_len (t : Tre) (k p : Nat) (s : Int) : (putS t k p s).length = t.length := by simp [putS]
theorem putS_at {t : Tre} {k p : Nat} {s : Int} (hk : k < t.length) : (putS t k p s).getD k default = { t.getD k default with seqs := (t.getD k default).seqs.set p s } := getD_setK hk
theorem file_facts {n : Nod} (h : mayN n = true) (hk : n.kind = 1) : 0 ≤ n.links ∧ n.links ≤ 120 ∧ 0 ≤ n.size ∧ n.size ≤ 80 ∧ n.seqs.length = 5 ∧ n.ents = [] ∧ ∀ i, i < 5 → 0 ≤ n.seqs.getD i 0 ∧ n.seqs.getD i 0 ≤ 1099511627776 ∧ (n.size ≤ (i : Int) * 16 → n.seqs.getD i 0 = 0) := by
  unfold mayN at h
  rw [if_neg (by omega), if_pos hk] at h
  unfold fileB within at h
  simp only [Bool.and_eq_true, decide_eq_true_eq, List.all_eq_true, List.mem_range] at h
  obtain ⟨⟨⟨⟨h1, h2⟩, h3⟩, h4⟩, h5⟩ := h
  refine ⟨h1.1, h1.2, h2.1, h2.2, h3, List.length_eq_zero_iff.1 h4, fun i hi => ?_⟩
  have := h5 i (by omega)
  unfold okS within at this
  simp only [Bool.and_eq_true, decide_eq_true_eq, Bool.not_eq_true', Bool.and_eq_false_iff, decide_eq_false_iff_not, Bool.not_eq_false'] at this
  refine ⟨this.1.1, this.1.2, fun hz => ?_⟩
  rcases this.2 with h | h
  · omega
  · exact h
theorem file_may_of {n : Nod} (hk : n.kind = 1) (h : 0 ≤ n.links ∧ n.links ≤ 120 ∧ 0 ≤ n.size ∧ n.size ≤ 80 ∧ n.seqs.length = 5 ∧ n.ents = [] ∧ ∀ i, i < 5 → 0 ≤ n.seqs.getD i 0 ∧ n.seqs.getD i 0 ≤ 1099511627776 ∧ (n.size ≤ (i : Int) * 16 → n.seqs.getD i 0 = 0)) : mayN n = true := by
  obtain ⟨h1, h2, h3, h4, h5, h6, h7⟩ := h
  unfold mayN
  rw [if_neg (by omega), if_pos hk]
  unfold fileB within
  simp only [Bool.and_eq_true, decide_eq_true_eq, List.all_eq_true, List.mem_range]
  refine ⟨⟨⟨⟨⟨h1, h2⟩, h3, h4⟩, h5⟩, by rw [h6]; rfl⟩, fun i hi => ?_⟩
  obtain ⟨a, b, c⟩ := h7 i (by omega)
  unfold okS within
  simp only [Bool.and_eq_true, decide_eq_true_eq, Bool.not_eq_true', Bool.and_eq_false_iff, decide_eq_false_iff_not, Bool.not_eq_false']
  refine ⟨⟨a, b⟩, ?_⟩
  by_cases hz : n.size ≤ (i : Int) * 16
  · exact .inr (c hz)
  · exact .inl hz
theorem getD_setI {l : List Int} {p i : Nat} {s : Int} (hp : p < l.length) : (l.set p s).getD i 0 = if i = p then s else l.getD i 0 := by
  by_cases h : i = p
  · subst h; rw [if_pos rfl, getD_at0 (by simpa using hp), List.getElem_set_self]
  · rw [if_neg h, List.getD_eq_getElem?_getD, List.getElem?_set_ne (fun e => h e.symm), ← List.getD_eq_getElem?_getD]
theorem putS_may {t : Tre} (hM : mayT t = true) {k p : Nat} {s : Int} (hk : k < 12) (hkk : kindT t k = 1) (hp : p < 5) (hps : (p : Int) * 16 < (t.getD k default).size) (h0 : 0 ≤ s) (h1 : s ≤ 1099511627776) (hnew : s ∉ allS t) : mayT (putS t k p s) = true := by
  have hF := mayF hM
  have h12 := hF.len
  obtain ⟨f1, f2, f3, f4, f5, f6, f7⟩ := file_facts (hF.at hk) hkk
  refine file_set_may hM hk hkk hkk rfl (file_may_of hkk ⟨f1, f2, f3, f4, ?_, f6, fun i hi => ?_⟩) ?_
  · show ((t.getD k default).seqs.set p s).length = 5
    rw [List.length_set]; exact f5
  · show 0 ≤ ((t.getD k default).seqs.set p s).getD i 0 ∧ ((t.getD k default).seqs.set p s).getD i 0 ≤ _ ∧ ((t.getD k default).size ≤ _ → ((t.getD k default).seqs.set p s).getD i 0 = 0)
    rw [getD_setI (by omega)]
    split
    · rename_i e; subst e; exact ⟨h0, h1, fun h => by omega⟩
    · exact f7 i hi
  · obtain ⟨o, ho⟩ := allS_put (t := t) (k := k) (p := p) (s := s) (by omega) (by omega)
    show apartL (allS (putS t k p s)) = true
    rw [ho]
    have := mayT_apart hM
    unfold apartL at this ⊢
    exact decide_eq_true (nodup_setF (of_decide_eq_true this) hnew)
/-- Pages of file k are written, with these Seqs. -/
def doneU (k : Nat) : Tre → List Tod → List Int → Tre
  | t, x :: l, s :: ss => doneU k (putS t k x.page.toNat s) l ss
  | t, _, _ => t
theorem doneU_snoc (k : Nat) : ∀ (t : Tre) (l : List Tod) (ss : List Int) (x : Tod) (s : Int), l.length = ss.length → doneU k t (l ++ [x]) (ss ++ [s]) = putS (doneU k t l ss) k x.page.toNat s
  | t, [], [], x, s, _ => rfl
  | t, y :: l, r :: ss, x, s, h => doneU_snoc k (putS t k y.page.toNat r) l ss x s (by simpa using h)
  | t, [], _ :: _, _, _, h => by simp at h
  | t, _ :: _, [], _, _, h => by simp at h
theorem doneU_len (k : Nat) : ∀ (t : Tre) (l : List Tod) (ss : List Int), (doneU k t l ss).length = t.length
  | t, x :: l, s :: ss => by rw [doneU, doneU_len, putS_len]
  | t, [], _ => by unfold doneU; rfl
  | t, _ :: _, [] => by unfold doneU; rfl
/-- But for its Seqs the node is as it was. -/
theorem doneU_at (k : Nat) : ∀ (t : Tre) (l : List Tod) (ss : List Int), k < t.length → ∃ q, q.length = (t.getD k default).seqs.length ∧ (doneU k t l ss).getD k default = { t.getD k default with seqs := q }
  | t, x :: l, s :: ss, h => by
    obtain ⟨q, h1, h2⟩ := doneU_at k (putS t k x.page.toNat s) l ss (by rw [putS_len]; exact h)
    rw [putS_at h] at h1 h2
    exact ⟨q, by rw [h1]; simp, h2⟩
  | t, [], _, _ => ⟨_, rfl, by unfold doneU; rfl⟩
  | t, _ :: _, [], _ => ⟨_, rfl, by unfold doneU; rfl⟩
theorem doneU_ne (k : Nat) {j : Nat} (hj : j ≠ k) : ∀ (t : Tre) (l : List Tod) (ss : List Int), (doneU k t l ss).getD j default = t.getD j default
  | t, x :: l, s :: ss => by
    rw [doneU, doneU_ne k hj]
    unfold putS
    rw [List.getD_eq_getElem?_getD, List.getElem?_set_ne (fun e => hj e.symm), ← List.getD_eq_getElem?_getD]
  | t, [], _ => by unfold doneU; rfl
  | t, _ :: _, [] => by unfold doneU; rfl
/-- The next numbers behind q. -/
def upS : Int → Nat → List Int
  | _, 0 => []
  | q, n + 1 => (q + 1) :: upS (q + 1) n
theorem upS_len : ∀ (q : Int) (n : Nat), (upS q n).length = n
  | _, 0 => rfl
  | q, n + 1 => by simp [upS, upS_len (q + 1) n]
theorem upS_snoc : ∀ (q : Int) (n : Nat), upS q (n + 1) = upS q n ++ [q + n + 1]
  | q, 0 => by simp [upS]
  | q, n + 1 => by
    rw [upS, upS_snoc (q + 1) n, upS, List.cons_append]
    congr 3
    push_cast
    omega
theorem upS_mem : ∀ {q s : Int} {n : Nat}, s ∈ upS q n → q < s ∧ s ≤ q + n
  | q, s, 0, h => by cases h
  | q, s, n + 1, h => by
    rcases List.mem_cons.1 h with h | h
    · omega
    · have := upS_mem h; omega
/-- No Seq is above q. -/
def TopS (t : Tre) (q : Int) : Prop := ∀ s ∈ allS t, s ≤ q
theorem done_may (k : Nat) : ∀ (t : Tre) (l : List Tod) (q : Int), mayT t = true → k < 12 → kindT t k = 1 → TopS t q → 0 ≤ q → q + l.length ≤ 1099511627776 → (∀ x ∈ l, 0 ≤ x.page ∧ x.page < 5 ∧ x.page * 16 < (t.getD k default).size) →
    mayT (doneU k t l (upS q l.length)) = true ∧ TopS (doneU k t l (upS q l.length)) (q + l.length)
  | t, [], q, hM, _, _, ht, _, _, _ => ⟨hM, fun s hs => by have := ht s hs; simp; omega⟩
  | t, x :: l, q, hM, hk, hkk, ht, h0, h1, hx => by
    have h12 := (mayF hM).len
    have hx0 := hx x (by simp)
    rw [List.length_cons] at h1 ⊢
    have f5 := (file_facts ((mayF hM).at hk) hkk).2.2.2.2.1
    have hM1 := putS_may hM (p := x.page.toNat) (s := q + 1) hk hkk (by omega) (by omega) (by omega) (by omega) (fun h => by have := ht _ h; omega)
    obtain ⟨o, ho⟩ := allS_put (t := t) (k := k) (p := x.page.toNat) (s := q + 1) (by omega) (by omega)
    have hT1 : TopS (putS t k x.page.toNat (q + 1)) (q + 1) := fun s hs => by
      rw [ho] at hs
      rcases List.mem_or_eq_of_mem_set hs with h | h
      · have := ht s h; omega
      · omega
    have hat := putS_at (t := t) (k := k) (p := x.page.toNat) (s := q + 1) (by omega)
    have hk1 : kindT (putS t k x.page.toNat (q + 1)) k = 1 := by unfold kindT; rw [hat]; exact hkk
    obtain ⟨a, b⟩ := done_may k (putS t k x.page.toNat (q + 1)) l (q + 1) hM1 hk hk1 hT1 (by omega) (by push_cast at h1 ⊢; omega) (fun y hy => by rw [hat]; exact hx y (by simp [hy]))
    refine ⟨a, ?_⟩
    show TopS (doneU k (putS t k x.page.toNat (q + 1)) l (upS (q + 1) l.length)) _
    have e : q + ((l.length + 1 : Nat) : Int) = q + 1 + l.length := by push_cast; omega
    rw [e]; exact b
end Go.Proofs.YtoogangnldppaaaGreatDoor

/- Contracts of trees in which pages were written (program and reference). -/
namespace Go.Proofs.YtoogangnldppaaaGreatDoor
open Go
theorem CopX.mono {V V' V2 : View} {x y : Sl} {k : Nat} {t : Tre} {cs ds : List Value} (h : CopX V V' x y k t cs ds) (hV : V'.Le V2) : CopX V V2 x y k t cs ds :=
  ⟨h.buf.mono hV, h.row.mono (minus_mono hV x), h.rep.mono (minus_mono (minus_mono hV x) y), h.ints, h.le.trans (minus_mono (minus_mono hV x) y)⟩
theorem CopX.yn {V V' : View} {x y : Sl} {k : Nat} {t : Tre} {cs ds : List Value} (h : CopX V V' x y k t cs ds) : y.n = (t.getD k default).seqs.length :=
  h.row.n_eq (α := Int) (W := V) h.ints.rep
theorem CopX.xn {V V' : View} {x y : Sl} {k : Nat} {t : Tre} {cs ds : List Value} (h : CopX V V' x y k t cs ds) : x.n = t.length := by
  have := h.buf.n_eq (α := NodX) h.rep
  rw [flg_len] at this; exact this
theorem mayT_light1000 {t : Tre} (h : mayT t = true) : t.length ≤ 1000 ∧ ∀ n ∈ t, LightN n := by
  obtain ⟨h12, hall, _⟩ := mayT_all h
  exact ⟨by omega, fun n hn => mayN_light (hall n hn)⟩
theorem take_snoc {α : Type} [Inhabited α] {l : List α} {j : Nat} (h : j < l.length) : l.take (j + 1) = l.take j ++ [l.getD j default] := by
  rw [List.take_add_one, List.getElem?_eq_getElem h, getD_at h]; rfl
theorem take_snoc0 {l : List Int} {j : Nat} (h : j < l.length) : l.take (j + 1) = l.take j ++ [l.getD j 0] := by
  rw [List.take_add_one, List.getElem?_eq_getElem h, getD_at0 h]; rfl
section
variable {s y z : Sl} {t : Tre} {l : List Tod} {ss : List Int} {k : Nat} {V : View}
/-- What is asked of pages that were written. -/
structure DonePre (t : Tre) (l : List Tod) (ss : List Int) (k : Nat) : Prop where
  may : mayT t = true
  k12 : k < 12
  len : l.length = ss.length
  todo : ∀ x ∈ l, x.node = k ∧ 0 ≤ x.page ∧ x.page < 5 ∧ kindT t k = 1
  seq : ∀ q ∈ ss, 1 ≤ q ∧ q ≤ 1099511627776
  out : mayT (doneU k t l ss) = true
theorem DonePre.at {t : Tre} {l : List Tod} {ss : List Int} {k : Nat} (h : DonePre t l ss k) {j : Nat} (hj : j < l.length) :
    fileQ t (l.getD j default).node = true ∧ (l.getD j default).node = k ∧ 0 ≤ (l.getD j default).page ∧ (l.getD j default).page < 5 ∧ 1 ≤ ss.getD j 0 ∧ ss.getD j 0 ≤ 1099511627776 ∧ ((doneU k t (l.take j) (ss.take j)).getD k default).seqs.length = 5 ∧
    doneU k t (l.take (j + 1)) (ss.take (j + 1)) = putS (doneU k t (l.take j) (ss.take j)) k (l.getD j default).page.toNat (ss.getD j 0) := by
  have hF := mayF h.may
  have h12 := hF.len
  have hl := h.len
  have hm : l.getD j default ∈ l := by rw [getD_at hj]; exact List.getElem_mem _
  obtain ⟨h1, h2, h3, h4⟩ := h.todo _ hm
  obtain ⟨h5, h6⟩ := h.seq (ss.getD j 0) (by rw [getD_at0 (by omega)]; exact List.getElem_mem _)
  obtain ⟨q, q1, q2⟩ := doneU_at k t (l.take j) (ss.take j) (by rw [h12]; exact h.k12)
  have f5 := (file_facts (hF.at h.k12) h4).2.2.2.2.1
  refine ⟨?_, h1, h2, h3, h5, h6, by rw [q2]; show q.length = 5; rw [q1]; exact f5, ?_⟩
  · unfold fileQ
    rw [h.may, Bool.true_and, h1]
    exact decide_eq_true ⟨by omega, by have := h.k12; omega, by simpa using h4⟩
  · rw [take_snoc hj, take_snoc0 (by omega), doneU_snoc _ _ _ _ _ _ (by rw [List.length_take, List.length_take]; omega)]
theorem fileDone_ok (h : SlR V s t) (hl : SlR V y l) (hss : SlR V z ss) (hp : DonePre t l ss k) : CallV Tryz.prog 37 ⟨[treV s, .slice y.a y.n y.c, .slice z.a z.n z.c]⟩ V fun r V' => ∃ x : Sl, r = .tuple ⟨[treV x, .int .i64 0]⟩ ∧ SlR V' x (doneU k t l ss) ∧ V.Le V' := by
  refine f37_x ?_
  unfold f37_n
  have hyn := hl.n; have hzn := hss.n; have hlen := hp.len
  have h12 := (mayF hp.may).len
  have hk12 := hp.k12
  have hylim := hl.lim
  refine fun _ _ => (mayT_ok h).mono ?_
  rintro r V1 ⟨rfl, hV1⟩
  rw [hp.may]
  refine ⟨_, rfl, br_intro (fun hb => absurd hb (by rw [decide_eq_true (show (y.n : Int) = z.n by omega)]; decide)) (fun _ => ?_)⟩
  refine (copyX_ok (k := k) (by omega) (h.mono hV1) (mayT_light1000 hp.may)).mono ?_
  rintro r V2 ⟨x, w, cs, ds, rfl, hX⟩
  refine ⟨x, rfl, fun _ => ?_⟩
  refine loop1 (k := .int .i64) (fun (i : Int) V3 => ∃ (j : Nat) (ds : List Value), i = j ∧ j ≤ l.length ∧ CopX V1 V3 x w k (doneU k t (l.take j) (ss.take j)) cs ds) (fun (i : Int) _ => l.length - i.toNat) ⟨0, ds, rfl, by omega, by unfold doneU; exact hX⟩ ?_
  rintro (i : Int) V3 ⟨j, ds, rfl, hj, hX⟩
  have hV3 := hV1.trans hX.vle
  refine br_intro (fun hlt => ?_) (fun hge => ?_)
  · have hlt : j < l.length := by have := of_decide_eq_true hlt; omega
    obtain ⟨hfq, hnode, hp0, hp5, hs1, hs2, hq5, hstep⟩ := hp.at hlt
    obtain ⟨ad, yd, ha, hc, hT⟩ := (hl.mono hV3).todN hlt
    refine ⟨by omega, by omega, ad, ha, _, _, _, _, _, _, hc, fun _ => ?_⟩
    refine joinP_cut (fun q V4 => q.1 = false ∧ V3.Le V4) ((fileIs_ok (h.mono hV3)).mono ?_) ?_
    · rintro r V4 ⟨rfl, hV4⟩
      rw [hfq]
      obtain ⟨ad2, ha2, hc2, _⟩ := (hss.mono (hV3.trans hV4)).intN (i := j) (by omega)
      refine ⟨_, rfl, br_intro (fun hb => absurd hb ?_) (fun _ => ⟨by omega, by omega, ad2, ha2, _, hc2, br_intro (fun hb => absurd hb ?_) (fun _ => ⟨by omega, by omega, ad2, ha2, _, hc2, ?_, hV4⟩)⟩)⟩
      · rw [decide_eq_false (by omega), decide_eq_false (by omega)]; decide
      · rw [decide_eq_false (by omega)]; decide
      · exact decide_eq_false (by omega)
    rintro ⟨q, ⟨⟩⟩ V4 ⟨h1, hV4⟩
    have h1 : q = false := h1
    have hV4 : V3.Le V4 := hV4
    subst h1
    dsimp only [unc]
    have hX4 := hX.mono hV4
    obtain ⟨ad2, ha2, hc2, _⟩ := (hss.mono (hV3.trans hV4)).intN (i := j) (by omega)
    have hxn := hX4.xn
    rw [doneU_len] at hxn
    have hyn4 := hX4.yn
    obtain ⟨ad3, ha3, hc3⟩ := hX4.cell (by rw [doneU_len]; omega)
    obtain ⟨ad4, ds', ha4, hset, hX5⟩ := hX4.put (by rw [doneU_len]; omega) (i := (l.getD j default).page.toNat) (v := ss.getD j 0) (by omega) (inI64 (by omega) (by omega))
    rw [show (l.getD j default).node = (k : Int) from hnode]
    refine br_intro (fun h => absurd h (by decide)) (fun _ => ⟨trivial, V4, View.Le.refl _, by omega, by omega, ad3, ha3, w, hc3, by omega, by omega, ad2, ha2, _, hc2, hp0, by omega, ad4, ha4, hset, inI64 (by omega) (by omega), ⟨j + 1, ds', by omega, by omega, ?_⟩, by omega⟩)
    rw [hstep]
    exact hX5
  · have hge : j = l.length := by have := of_decide_eq_false hge; omega
    subst hge
    rw [List.take_of_length_le (Nat.le_refl _), List.take_of_length_le (by omega)] at hX
    have hR := hX.slR (by rw [doneU_len]; omega)
    refine (mayT_ok hR).mono ?_
    rintro r V4 ⟨rfl, hV4⟩
    rw [hp.out]
    exact ⟨_, rfl, br_intro (fun h => absurd h (by decide)) (fun _ => ⟨x, rfl, hR.mono hV4, hV3.trans hV4⟩)⟩
end
end Go.Proofs.YtoogangnldppaaaGreatDoor

/- Contracts of writes (program and reference). -/
namespace Go.Proofs.YtoogangnldppaaaGreatDoor
open Go
/-- The pages of a write. -/
def todosW (n : Nod) (i : Int) : List Pce → List UInt8 → List Tod
  | [], _ => []
  | p :: ps, b => ⟨i, p.page, n.seqs.getD p.page.toNat 0, 16, p.from_, b.take p.len.toNat⟩ :: todosW n i ps (b.drop p.len.toNat)
noncomputable def writeT (t : Tre) (data i a : Int) (b : List UInt8) : Except Int (Tre × List Tod) :=
  if fileQ t i = false ∨ a < 0 then .error 1 else if b.length = 0 then .ok (t, []) else if fitsI a b.length = false then .error 16 else
    if data < usedT t + moreN (t.getD i.toNat default) a b.length then .error 13 else
    .ok (t.set i.toNat { t.getD i.toNat default with size := max (t.getD i.toNat default).size (a + b.length) }, todosW (t.getD i.toNat default) i (piecesI a b.length) b)
/-- What a write tells. -/
def outW (V V' : View) (r : Value) : Except Int (Tre × List Tod) → Prop
  | .ok (u, l) => ∃ x y : Sl, r = .tuple ⟨[treV x, .slice y.a y.n y.c, .int .i64 0]⟩ ∧ SlR V' x u ∧ SlR V' y l ∧ V.Le V'
  | .error e => r = .tuple ⟨[treV ⟨none, 0, 0⟩, .slice none 0 0, .int .i64 e]⟩ ∧ e ≠ 0 ∧ V.Le V'
theorem piecesI_pcs {a : Int} {n : Nat} (h : fitsI a n = true) : piecesI a n = pcs a.toNat n := by
  unfold piecesI; rw [if_pos h]; rfl
section
variable {s y : Sl} {t : Tre} {i a d : Int} {b : List UInt8} {V : View}
theorem fileWrite_ok (h : SlR V s t) (hb : SlR V y b) (hd : inI .i64 d) : CallV Tryz.prog 107 ⟨[treV s, .int .i64 d, .int .i64 i, .int .i64 a, .slice y.a y.n y.c]⟩ V fun r V' => outW V V' r (writeT t d i a b) := by
  refine f107_x ?_
  unfold f107_n
  have hn := h.n; have hyn := hb.n; have hyc := hb.c; have hyl := hb.lim
  unfold writeT
  refine fun _ _ => (fileIs_ok h).mono ?_
  rintro r V1 ⟨rfl, hV1⟩
  refine ⟨_, rfl, br_intro (fun hc => ?_) (fun hc => ?_)⟩
  · rw [if_pos (by cases hq : fileQ t i <;> simp [hq] at hc ⊢ <;> omega)]
    exact ⟨rfl, by decide, hV1⟩
  have hc : fileQ t i = true ∧ 0 ≤ a := by cases hq : fileQ t i <;> simp [hq] at hc ⊢ <;> omega
  obtain ⟨hq, ha0⟩ := hc
  rw [if_neg (by rw [hq]; rintro (h | h); cases h; omega)]
  obtain ⟨hM, hi0, hi1, hik⟩ := fileQ_iff hq
  have h12 := (mayF hM).len
  refine br_intro (fun hz => ?_) (fun hz => ?_)
  · have hz := of_decide_eq_true hz
    rw [if_pos (by omega)]
    refine (copyT_ok (h.mono hV1) (mayT_light1000 hM)).mono ?_
    rintro r V2 ⟨x, rfl, hO⟩
    exact ⟨x, rfl, x, ⟨none, 0, 0⟩, rfl, hO.slR, SlR.nil _ _ _, hV1.trans hO.le⟩
  have hz := of_decide_eq_false hz
  rw [if_neg (show ¬ b.length = 0 by omega)]
  refine spanFits_ok.mono ?_
  rintro r V2 ⟨rfl, rfl⟩
  have hyb : (y.n : Int) = (b.length : Int) := by omega
  rw [hyb]
  refine ⟨_, rfl, br_intro (fun hf => ?_) (fun hf => ?_)⟩
  · rw [if_pos (by simpa using hf)]
    exact ⟨rfl, by decide, hV1⟩
  have hf := not_f hf
  rw [if_neg (by rw [hf]; decide)]
  obtain ⟨ad, sq, en, ha, hcc, hN⟩ := (h.mono hV1).nodN (i := i.toNat) (by omega)
  refine ⟨trivial, V2, View.Le.refl _, by omega, by omega, ad, ha, _, _, _, sq, en, hcc, (quotaUsed_ok (h.mono hV1)).mono ?_⟩
  rintro r V3 ⟨rfl, hV3⟩
  refine ⟨_, rfl, hV3, (quotaMore_ok (hN.mono hV3)).mono ?_⟩
  rintro r V4 ⟨rfl, hV4⟩
  have hu := usedT_le t
  have hml := moreN_le (t.getD i.toNat default) a b.length
  refine ⟨_, rfl, inI64 (by omega) (by omega), br_intro (fun hc => ?_) (fun hc => ?_)⟩
  · rw [if_pos (of_decide_eq_true hc)]
    exact ⟨rfl, by decide, hV1.trans (hV3.trans hV4)⟩
  rw [if_neg (of_decide_eq_false hc)]
  have hV14 := hV1.trans (hV3.trans hV4)
  refine (copyT_ok (h.mono hV14) (mayT_light1000 hM)).mono ?_
  rintro r V5 ⟨x, rfl, hO⟩
  have hOn := hO.n
  obtain ⟨ad5, sq5, en5, ha5, hc5, hN5, _, hset, _⟩ := hO.setC (i := i.toNat) (by omega)
  have hf0 := hf
  unfold fitsI at hf0
  have hf0 := of_decide_eq_true hf0
  have hsz := inI64_iff.1 hN5.size
  have emax : (if a + (b.length : Int) > (t.getD i.toNat default).size then a + (b.length : Int) else (t.getD i.toNat default).size) = max (t.getD i.toNat default).size (a + b.length) := by split <;> omega
  obtain ⟨hs1, hO2⟩ := hset (max (t.getD i.toNat default).size (a + b.length)) _ (inI64 (by omega) (by omega)) rfl
  refine ⟨x, rfl, fun _ => ⟨by omega, by omega, ad5, ha5, _, rfl, _, cellsAt_nth hc5 2 rfl, inI64 (by omega) (by omega), _, rfl, hs1, ?_⟩⟩
  rw [emax]
  generalize V5.sets ((ad5.add (i.toNat * 5)).add 2) [.int .i64 (max (t.getD i.toNat default).size (a + b.length))] = V6 at hO2
  refine spanPieces_ok.mono ?_
  rintro r V7 ⟨z, rfl, hz7, hV7⟩
  have hO7 := hO2.mono hV7
  have hV07 := hV14.trans hO7.le
  have hT7 := hO7.slR
  rw [piecesI_pcs hf] at hz7
  have hzn := hz7.n
  have hzl := hz7.lim
  have hpl := pieces_len a b.length
  rw [piecesI_pcs hf] at hpl
  rw [piecesI_pcs hf]
  obtain ⟨ad7, sq7, en7, ha7, hc7, hN7⟩ := hT7.nodN (i := i.toNat) (by simp; omega)
  rw [getD_setK (by omega)] at hc7 hN7
  have e57 : ad5 = ad7 := by rw [ha5] at ha7; cases ha7; rfl
  subst e57
  have hsq : SlR V7 sq7 (t.getD i.toNat default).seqs := hN7.seqs
  have hsqn := hsq.n
  have f5 := (file_facts ((mayF hM).at (show i.toNat < 12 by omega)) hik).2.2.2.2.1
  refine ⟨z, rfl, ?_⟩
  refine loop3 (k := .sl) (l := .sl) (n := .int .i64) (fun (q w : Sl) (j : Int) V8 => ∃ (c : Nat) (b' : List UInt8) (a' : Nat) (done : List Tod) (cs : List Value), j = c ∧ c ≤ (pcs a.toNat b.length).length ∧ (pcs a.toNat b.length).drop c = pcs a' b'.length ∧ (a' : Int) + b'.length = a + b.length ∧ done.length = c ∧
      done ++ todosW (t.getD i.toNat default) i (pcs a' b'.length) b' = todosW (t.getD i.toNat default) i (pcs a.toNat b.length) b ∧ SlR V7 q b' ∧ Buf V8 w 77 (Rep.sz Tod) cs ∧ repL (V8.minus w) cs done ∧ V7.Le (V8.minus w)) (fun _ _ (j : Int) _ => (pcs a.toNat b.length).length - j.toNat)
    ⟨0, b, a.toNat, [], [], rfl, by omega, rfl, by omega, rfl, rfl, hb.mono hV07, Buf.nil _ _ _, rfl, View.Le.refl _⟩ ?_
  rintro (q w : Sl) (j : Int) V8 ⟨c, b', a', done, cs, rfl, hcl, hdr, hab, hdl, hdone, hq8, hB, hR, hle⟩
  have hV78 := hle.trans (View.minus_le _ _)
  refine br_intro (fun hlt => ?_) (fun hge => ?_)
  · have hlt : c < (pcs a.toNat b.length).length := by have := of_decide_eq_true hlt; omega
    have hbp : 0 < b'.length := by
      apply Nat.pos_of_ne_zero
      intro h0
      rw [h0, pcs_zero, List.drop_eq_nil_iff] at hdr
      omega
    have hst := pcs_step (a := a') hbp
    rw [hst] at hdr hdone
    have hdc := List.drop_eq_getElem_cons hlt
    rw [hdc] at hdr
    injection hdr with hp1 hp2
    obtain ⟨ad8, ha8, hc8⟩ := (hz7.mono hV78).pceN hlt
    have eg : (pcs a.toNat b.length).getD c default = ⟨(a' / 16 : Nat), (a' % 16 : Nat), (min b'.length (16 - a' % 16) : Nat)⟩ := by rw [List.getD_eq_getElem?_getD, List.getElem?_eq_getElem hlt]; exact hp1
    rw [eg] at hc8
    dsimp only at hc8
    have ht' : todosW (t.getD i.toNat default) i (⟨(a' / 16 : Nat), (a' % 16 : Nat), (min b'.length (16 - a' % 16) : Nat)⟩ :: pcs (a' + min b'.length (16 - a' % 16)) (b'.length - min b'.length (16 - a' % 16))) b' =
        ⟨i, (a' / 16 : Nat), (t.getD i.toNat default).seqs.getD (a' / 16) 0, 16, (a' % 16 : Nat), b'.take (min b'.length (16 - a' % 16))⟩ :: todosW (t.getD i.toNat default) i (pcs (a' + min b'.length (16 - a' % 16)) (b'.length - min b'.length (16 - a' % 16))) (b'.drop (min b'.length (16 - a' % 16))) := rfl
    rw [ht'] at hdone
    obtain ⟨m, hm⟩ : ∃ m, m = min b'.length (16 - a' % 16) := ⟨_, rfl⟩
    rw [← hm] at hc8 hdone hp2
    have hqn := hq8.n; have hqc := hq8.c; have hql := hq8.lim
    obtain ⟨ad9, ha9, hc9, hi9⟩ := hsq.intN (i := a' / 16) (by omega)
    have e1 : (if q.c = 0 then q.a else Option.map (fun (x : Addr) => x.add 0) q.a) = q.a := by rw [map_add_zero, ite_self]
    have hwn := hB.n_eq (α := Tod) hR
    refine ⟨by omega, by omega, ad8, ha8, _, _, _, hc8, fun _ => ⟨trivial, V7, hV78, _, rfl, sq7, cellsAt_nth hc7 3 rfl, by omega, by omega, ad9, ha9, _, hc9, by omega, by omega, by omega, ?_⟩⟩
    rw [e1]
    refine ((clone8_ok (s := ⟨q.a, m, q.c⟩) ((hq8.mono hle).take (j := m) (by omega)) (by simp; omega)).besideB hB).mono ?_
    rintro r V9 ⟨U, ⟨e, rfl, hF⟩, hU, hB9⟩
    have hle9 := hF.vle.trans hU
    refine ⟨e, rfl, (hle.trans hle9).trans (View.minus_le _ _), fun r hr => ?_⟩
    refine app0 (α := Tod) (V0 := V7) (d := ⟨i, (a' / 16 : Nat), (t.getD i.toNat default).seqs.getD (a' / 16) 0, 16, (a' % 16 : Nat), b'.take m⟩) rfl hB9 (hR.mono hle9) ⟨e, rfl, ⟨inI64 (by dsimp only; omega) (by dsimp only; omega), inI64 (by dsimp only; omega) (by dsimp only; omega), hi9, inI64 (by dsimp only; omega) (by dsimp only; omega), inI64 (by dsimp only; omega) (by dsimp only; omega), hF.slR.mono hU⟩⟩ (hle.trans hle9) hr rfl (by show (w.n + 1) * 64 ≤ _; omega) (by show w.n + 1 ≤ _; omega) fun v V10 cs' g1 g2 g3 => ?_
    refine ⟨by omega, by omega, by omega, inI64 (by omega) (by omega), ⟨c + 1, b'.drop m, a' + m, _, cs', by omega, by omega, by rw [hp2, List.length_drop], by rw [List.length_drop]; omega, by simp [hdl], ?_, ?_, g1, g2, g3⟩, by omega⟩
    · rw [List.append_assoc, List.length_drop]; exact hdone
    · have := hq8.sub (i := m) (j := b'.length) (by omega) (Nat.le_refl _)
      rw [List.take_length, ← hqn] at this
      exact this
  · have hge : c = (pcs a.toNat b.length).length := by have := of_decide_eq_false hge; omega
    have hb0 : b'.length = 0 := by
      apply Classical.byContradiction
      intro h0
      have h1 : (pcs a.toNat b.length).drop c = [] := List.drop_of_length_le (by omega)
      rw [h1, pcs_step (a := a') (n := b'.length) (by omega)] at hdr
      cases hdr
    rw [hb0, pcs_zero] at hdone
    have hdone : done = todosW (t.getD i.toNat default) i (pcs a.toNat b.length) b := by rw [← hdone]; simp [todosW]
    rw [← hdone]
    exact ⟨x, w, rfl, hT7.mono hV78, hB.slR hR (View.minus_le _ _), hV07.trans hV78⟩
end
end Go.Proofs.YtoogangnldppaaaGreatDoor

/- Contracts of another size (program and reference). -/
namespace Go.Proofs.YtoogangnldppaaaGreatDoor
open Go
def cutS (l : List Int) (z : Int) (k : Nat) : List Int := (List.range 5).map fun p => if p < k ∧ z ≤ (p : Int) * 16 then 0 else l.getD p 0
theorem cutS_len (l : List Int) (z : Int) (k : Nat) : (cutS l z k).length = 5 := by unfold cutS; simp
theorem cutS_get {l : List Int} {z : Int} {k p : Nat} (hp : p < 5) : (cutS l z k).getD p 0 = if p < k ∧ z ≤ (p : Int) * 16 then 0 else l.getD p 0 := by
  rw [getD_at0 (by rw [cutS_len]; exact hp)]
  unfold cutS
  simp only [List.getElem_map, List.getElem_range]
theorem cutS_zero {l : List Int} (z : Int) (h : l.length = 5) : cutS l z 0 = l := by
  apply List.ext_getElem
  · rw [cutS_len, h]
  · intro i h1 h2
    rw [← getD_at0 h1, cutS_get (by omega), if_neg (by omega), getD_at0 h2]
theorem cutS_set {l : List Int} {z : Int} {k : Nat} (h : z ≤ (k : Int) * 16) : (cutS l z k).set k 0 = cutS l z (k + 1) := by
  unfold cutS
  apply List.ext_getElem
  · simp
  · intro i h1 h2
    rw [List.getElem_set]
    simp only [List.getElem_map, List.getElem_range]
    split
    · rename_i e; subst e; rw [if_pos (by omega)]
    · rename_i e
      by_cases hc : i < k ∧ z ≤ (i : Int) * 16
      · rw [if_pos hc, if_pos (by omega)]
      · rw [if_neg hc, if_neg (by omega)]
theorem cutS_skip {l : List Int} {z : Int} {k : Nat} (h : ¬ z ≤ (k : Int) * 16) : cutS l z k = cutS l z (k + 1) := by
  unfold cutS
  apply List.map_congr_left
  intro i _
  by_cases hc : i < k ∧ z ≤ (i : Int) * 16
  · rw [if_pos hc, if_pos (by omega)]
  · rw [if_neg hc, if_neg]
    rintro ⟨h1, h2⟩
    by_cases e : i = k
    · subst e; exact h h2
    · exact hc ⟨by omega, h2⟩
/-- The page that is cut. -/
def todosC (n : Nod) (i z : Int) : List Tod := if z < n.size ∧ 0 < z % 16 ∧ n.seqs.getD (z / 16).toNat 0 ≠ 0 then [⟨i, z / 16, n.seqs.getD (z / 16).toNat 0, z % 16, 0, []⟩] else []
noncomputable def truncT (t : Tre) (i z : Int) : Except Int (Tre × List Tod) :=
  if fileQ t i = false ∨ z < 0 then .error 1 else if 80 < z then .error 16 else
    .ok (t.set i.toNat { t.getD i.toNat default with size := z, seqs := cutS (t.getD i.toNat default).seqs z 5 }, todosC (t.getD i.toNat default) i z)
/-- A new block beside such a copy. -/
theorem CopX.new {V V' : View} {x y : Sl} {k : Nat} {t : Tre} {cs ds : List Value} (h : CopX V V' x y k t cs ds) (hk : k < t.length) (hk5 : 0 < (t.getD k default).seqs.length) {r : Nat} {o : Obj} (hr : V'.size ≤ r) :
    ∃ W : View, W.see r = some o ∧ V.Le W ∧ CopX W (V'.put r o) x y k t cs ds := by
  have hfr := View.see_none_of_ge hr
  have h2 := h.mono (View.put_le (o := o) hfr)
  refine ⟨(((V'.put r o).minus x).minus y), ?_, h2.le, h2.buf, h2.row, h2.rep, h2.ints, View.Le.refl _⟩
  have hxn := h.xn
  have hyn := h.yn
  have hx : ∀ a, x.a = some a → r ≠ a.block := by
    intro a ha e
    rcases h.buf.own with ⟨h1, _⟩ | ⟨q, all, h1, h3, _⟩
    · rw [h1] at ha; cases ha
    · rw [h1] at ha; cases ha
      have e : r = q := e
      rw [← e, hfr] at h3; cases h3
  have hy : ∀ a, y.a = some a → r ≠ a.block := by
    intro a ha e
    rcases h.row.own with ⟨h1, _⟩ | ⟨q, all, h1, h3, _⟩
    · rw [h1] at ha; cases ha
    · rw [h1] at ha; cases ha
      have h4 := (View.minus_le V' x).see _ _ h3
      have e : r = q := e
      rw [← e, hfr] at h4; cases h4
  have m1 : ((V'.put r o).minus x).see r = some o := by
    unfold View.minus
    cases ha : x.a with
    | none => exact View.see_put_same _ _ _
    | some a => rw [hide_see, if_neg (hx a ha)]; exact View.see_put_same _ _ _
  unfold View.minus at m1 ⊢
  cases ha : y.a with
  | none => exact m1
  | some a => rw [hide_see, if_neg (hy a ha)]; exact m1
theorem CopX.base {V V' W : View} {x y : Sl} {k : Nat} {t : Tre} {cs ds : List Value} (h : CopX V V' x y k t cs ds) (hW : W.Le V) : CopX W V' x y k t cs ds := ⟨h.buf, h.row, h.rep, h.ints, hW.trans h.le⟩
/-- A page's row of its own. -/
theorem one_tod {W : View} {r : Nat} {x : Tod} {cs : List Value} (h : W.see r = some (.cells ⟨cs⟩ 77 (0, 0))) (hr : Rep.rep W cs x) : SlR W ⟨some ⟨r, 0, none⟩, 1, 1⟩ [x] :=
  slR_block (W := W) (l := [x]) h ⟨cs, [], by simp, hr, rfl⟩ (View.Le.refl _) (by simp)
theorem tdiv16 {z : Int} (h : 0 ≤ z) : Int.tdiv z 16 = z / 16 := Int.tdiv_eq_ediv_of_nonneg h
theorem tmod16 {z : Int} (h : 0 ≤ z) : Int.tmod z 16 = z % 16 := Int.tmod_eq_emod_of_nonneg h
section
variable {s : Sl} {t : Tre} {i z : Int} {V : View}
theorem fileTrunc_ok (h : SlR V s t) : CallV Tryz.prog 108 ⟨[treV s, .int .i64 i, .int .i64 z]⟩ V fun r V' => outW V V' r (truncT t i z) := by
  refine f108_x ?_
  unfold f108_n
  have hn := h.n
  unfold truncT
  refine fun _ _ => (fileIs_ok h).mono ?_
  rintro r V1 ⟨rfl, hV1⟩
  refine ⟨_, rfl, br_intro (fun hc => ?_) (fun hc => ?_)⟩
  · rw [if_pos (by cases hq : fileQ t i <;> simp [hq] at hc ⊢ <;> omega)]
    exact ⟨rfl, by decide, hV1⟩
  have hc : fileQ t i = true ∧ 0 ≤ z := by cases hq : fileQ t i <;> simp [hq] at hc ⊢ <;> omega
  obtain ⟨hq, hz0⟩ := hc
  rw [if_neg (by rw [hq]; rintro (h | h); cases h; omega)]
  refine br_intro (fun hc => ?_) (fun hc => ?_)
  · rw [if_pos (of_decide_eq_true hc)]
    exact ⟨rfl, by decide, hV1⟩
  have hz80 := of_decide_eq_false hc
  rw [if_neg hz80]
  obtain ⟨hM, hi0, hi1, hik⟩ := fileQ_iff hq
  have h12 := (mayF hM).len
  obtain ⟨k, rfl⟩ : ∃ k : Nat, i = k := ⟨i.toNat, by omega⟩
  have ek : ((k : Int)).toNat = k := rfl
  rw [ek] at hik ⊢
  have f5 := (file_facts ((mayF hM).at (show k < 12 by omega)) hik).2.2.2.2.1
  have hz16 := Int.emod_nonneg z (show (16 : Int) ≠ 0 by decide)
  rw [tdiv16 hz0, tmod16 hz0]
  refine (copyX_ok (k := k) (by omega) (h.mono hV1) (mayT_light1000 hM)).mono ?_
  rintro r V2 ⟨x, w, cs, ds, rfl, hX⟩
  have hxn := hX.xn
  have hyn := hX.yn
  have hR := hX.slR (by omega)
  obtain ⟨ad, sq, en, ha, hcc, hN⟩ := hR.nodN (i := k) (by omega)
  have hsqn := hN.seqs.n
  refine ⟨x, rfl, fun _ => ⟨by omega, by omega, ad, ha, by decide, inI64 (by omega) (by omega), by decide, ?_⟩⟩
  refine joinP_cut (fun q V3 => q.1 = decide (z < (t.getD k default).size ∧ 0 < z % 16 ∧ (t.getD k default).seqs.getD (z / 16).toNat 0 ≠ 0) ∧ V3 = V2) ⟨_, rfl, _, cellsAt_nth hcc 2 rfl, br_intro (fun hb => ?_) (fun hb => ⟨?_, rfl⟩)⟩ ?_
  · have hb : z < (t.getD k default).size ∧ 0 < z % 16 := by
      by_cases h0 : z < (t.getD k default).size
      · rw [decide_eq_true h0] at hb; exact ⟨h0, of_decide_eq_true hb⟩
      · rw [decide_eq_false h0] at hb; cases hb
    obtain ⟨ad2, ha2, hc2, _⟩ := hN.seqs.intN (i := (z / 16).toNat) (by omega)
    refine ⟨_, rfl, sq, cellsAt_nth hcc 3 rfl, by omega, by omega, ad2, ha2, _, hc2, ?_, rfl⟩
    rw [← decide_not]
    exact decide_eq_decide.2 ⟨fun h => ⟨hb.1, hb.2, h⟩, fun h => h.2.2⟩
  · refine (decide_eq_false ?_).symm
    rintro ⟨h0, h1, _⟩
    rw [decide_eq_true h0, decide_eq_true h1] at hb; cases hb
  rintro ⟨q, ⟨⟩⟩ V3 ⟨h1, hV⟩
  have h1 : q = decide (z < (t.getD k default).size ∧ 0 < z % 16 ∧ (t.getD k default).seqs.getD (z / 16).toNat 0 ≠ 0) := h1
  have hV : V3 = V2 := hV
  subst h1 hV
  dsimp only [unc]
  refine joinP_cut (fun q V4 => ∃ W cs ds, CopX W V4 x w k t cs ds ∧ V1.Le W ∧ SlR W q.1 (todosC (t.getD k default) k z)) (br_intro (fun hb => ?_) (fun hb => ?_)) ?_
  · have hb := of_decide_eq_true hb
    obtain ⟨ad2, ha2, hc2, hi2⟩ := hN.seqs.intN (i := (z / 16).toNat) (by omega)
    refine ⟨_, rfl, sq, cellsAt_nth hcc 3 rfl, by omega, by omega, ad2, ha2, _, hc2, fun r hr => ?_⟩
    obtain ⟨W, hW1, hW2, hW3⟩ := hX.new (by omega) (by omega) (o := .cells ⟨[.int .i64 k, .int .i64 (z / 16), .int .i64 ((t.getD k default).seqs.getD (z / 16).toNat 0), .int .i64 (z % 16), .int .i64 0, .slice none 0 0]⟩ 77 (0, 0)) hr
    refine ⟨W, cs, ds, hW3, hW2, ?_⟩
    unfold todosC; rw [if_pos hb]
    exact one_tod hW1 ⟨⟨none, 0, 0⟩, rfl, ⟨inI64 (by dsimp only; omega) (by dsimp only; omega), inI64 (by dsimp only; omega) (by dsimp only; omega), hi2, inI64 (by dsimp only; omega) (by dsimp only; omega), inI64 (by dsimp only; omega) (by dsimp only; omega), SlR.nil _ _ _⟩⟩
  · have hb := of_decide_eq_false hb
    refine ⟨V1, cs, ds, hX, View.Le.refl _, ?_⟩
    unfold todosC; rw [if_neg hb]
    exact SlR.nil _ _ _
  rintro ⟨l, ⟨⟩⟩ V4 ⟨W, cs, ds, hX, hW, hl⟩
  have hl : SlR W l (todosC (t.getD k default) k z) := hl
  dsimp only [unc]
  obtain ⟨ad3, cs3, ha3, hs3, hX3⟩ := hX.size (by omega) (v := z) (inI64 (by omega) (by omega))
  have : ad3 = ad := by rw [ha] at ha3; cases ha3; rfl
  subst this
  refine ⟨_, rfl, hs3, ?_⟩
  generalize V4.sets ((ad3.add (k * 5)).add 2) [.int .i64 z] = V5 at hX3
  refine spanPages_ok.mono ?_
  rintro r V6 ⟨rfl, rfl⟩
  have hpg : ∀ p : Nat, p < 5 → (pagesI z ≤ p ↔ z ≤ (p : Int) * 16) := by
    intro p hp
    unfold pagesI
    omega
  refine ⟨_, rfl, ?_⟩
  have e0 : t.set k { t.getD k default with size := z } = t.set k { t.getD k default with size := z, seqs := cutS (t.getD k default).seqs z (pagesI z) } := by
    have : cutS (t.getD k default).seqs z (pagesI z) = (t.getD k default).seqs := by
      apply List.ext_getElem
      · rw [cutS_len, f5]
      · intro i h1 h2
        have hi5 : i < 5 := by rw [cutS_len] at h1; exact h1
        rw [← getD_at0 h1, cutS_get hi5, if_neg, getD_at0 h2]
        rintro ⟨h3, h4⟩
        have := (hpg i hi5).2 h4
        omega
    rw [this]
  rw [e0] at hX3
  refine loop1 (k := .int .i64) (fun (j : Int) V7 => ∃ (p : Nat) (cs ds : List Value), j = p ∧ pagesI z ≤ p ∧ p ≤ 5 ∧ CopX W V7 x w k (t.set k { t.getD k default with size := z, seqs := cutS (t.getD k default).seqs z p }) cs ds) (fun (j : Int) _ => 5 - j.toNat) ⟨pagesI z, cs3, ds, rfl, Nat.le_refl _, by unfold pagesI; omega, hX3⟩ ?_
  rintro (j : Int) V7 ⟨p, cs, ds, rfl, hp0, hp5, hX7⟩
  refine br_intro (fun hlt => ?_) (fun hge => ?_)
  · have hlt : p < 5 := by have := of_decide_eq_true hlt; omega
    obtain ⟨ad4, ha4, hc4⟩ := hX7.cell (by simp; omega)
    have : ad4 = ad3 := by rw [ha4] at ha; cases ha; rfl
    subst this
    have hwn := hX7.yn
    rw [getD_setK (by omega)] at hwn
    dsimp only at hwn
    rw [cutS_len] at hwn
    obtain ⟨ad5, ds', ha5, hs5, hX8⟩ := hX7.put (by simp; omega) (i := p) (v := 0) (by rw [getD_setK (by omega)]; show p < (cutS _ _ _).length; rw [cutS_len]; exact hlt) (inI64 (by decide) (by decide))
    refine ⟨_, rfl, w, hc4, by omega, by omega, ad5, ha5, hs5, inI64 (by omega) (by omega), ⟨p + 1, cs, ds', by omega, by omega, by omega, ?_⟩, by omega⟩
    rw [getD_setK (by omega), List.set_set] at hX8
    dsimp only at hX8
    rw [cutS_set ((hpg p hlt).1 hp0)] at hX8
    exact hX8
  · have hge : p = 5 := by have := of_decide_eq_false hge; omega
    subst hge
    have hle : W.Le V7 := hX7.vle
    exact ⟨x, l, rfl, hX7.slR (by simp; omega), hl.mono hle, hV1.trans (hW.trans hle)⟩
end
/-- A box of one's own beside what U sees. -/
structure LB (b : Nat) (U V : View) (v : Value) : Prop where
  le : U.Le V
  no : U.see b = none
  at_ : V.see b = some (.cells ⟨[v]⟩ 40 (0, 0))
theorem LB.set {b : Nat} {U V : View} {v : Value} (h : LB b U V v) {a : Addr} {k : Nat} (hs : canSet U a k) (vs : List Value) : canSet V a k ∧ LB b (U.sets a vs) (V.sets a vs) v := by
  have hne : b ≠ a.block := by
    rintro rfl
    obtain ⟨_, c, e, f, h1, _⟩ := hs
    rw [h.no] at h1; cases h1
  obtain ⟨h1, h2, _⟩ := lift_sets h.le hs vs
  exact ⟨h1, h2, by rw [sets_see_ne hne]; exact h.no, by rw [sets_see_ne hne]; exact h.at_⟩
theorem LB.box {b : Nat} {U V : View} {v : Value} (h : LB b U V v) (u : Value) : canSet V ⟨b, 0, none⟩ 1 ∧ LB b U (V.sets ⟨b, 0, none⟩ [u]) u := by
  have e := sets_see (off := 0) (vs := [u]) h.at_
  refine ⟨canSet_of h.at_ (by simp), ?_, h.no, ?_⟩
  · rw [e]
    refine ⟨Nat.le_trans h.le.size (Nat.le_max_left _ _), fun i o hi => ?_, h.le.out⟩
    have hne : i ≠ b := fun e => by rw [e, h.no] at hi; cases hi
    rw [View.see_put_ne _ _ hne]; exact h.le.see _ _ hi
  · rw [e, View.see_put_same]; rfl
theorem LB.cells {b : Nat} {U V : View} {v : Value} (h : LB b U V v) : cellsAt V (⟨b, 0, none⟩ : Addr) [v] := cellsAt_one.2 (cell_of_see h.at_ rfl)
theorem LB.grow {b : Nat} {U V V' : View} {v : Value} (h : LB b U V v) (hV : V.Le V') : LB b U V' v := ⟨h.le.trans hV, h.no, hV.see _ _ h.at_⟩
end Go.Proofs.YtoogangnldppaaaGreatDoor

/- What the executor asks of these functions, written out. (Printed by wip/tools/gen.py.) -/
set_option maxRecDepth 100000
set_option linter.unusedVariables false
namespace Go.Proofs.YtoogangnldppaaaGreatDoor
open Go
variable [DrK]
end Go.Proofs.YtoogangnldppaaaGreatDoor

/- Contracts of handles of which none is open; of names of entries. -/
namespace Go.Proofs.YtoogangnldppaaaGreatDoor
open Go
def newH : List Int := [-1, -1, -1, -1]
theorem mul_ok {V : View} : CallV Tryz.prog 94 ⟨[.int .u64 (IntKind.wrap .u64 ((1 : Nat) : Int)), .int .u64 (IntKind.wrap .u64 4)]⟩ V fun r V' => r = .tuple ⟨[.int .u64 0, .int .u64 4]⟩ ∧ V' = V := by
  refine f94_x ?_
  unfold f94_n
  refine CallV.mono (K := fun r V' => r = .tuple ⟨[.int .u64 0, .int .u64 4]⟩ ∧ V' = V) ?_ ?_
  · refine f141_x ?_
    unfold f141_n
    refine ⟨by decide, by decide, by decide, by decide, by decide, ?_, rfl⟩
    congr 4
  · rintro r V' ⟨rfl, rfl⟩
    exact ⟨_, _, rfl, rfl, rfl⟩
def rowH (i : Nat) : List Value := List.replicate i (.int .i64 (-1)) ++ List.replicate (4 - i) (.int .i64 0)
theorem repeatH_ok {V : View} {r0 : Nat} {e : TypeId} (h0 : V.see r0 = some (.cells ⟨[.int .i64 (-1)]⟩ e (0, 0))) : CallV Tryz.prog 62 ⟨[.slice (some ⟨r0, 0, none⟩) 1 1, .int .i64 4]⟩ V fun r V' => ∃ x : Sl, r = .slice x.a x.n x.c ∧ SlR V' x newH ∧ V.Le V' := by
  refine f62_x (a0 := ⟨some ⟨r0, 0, none⟩, 1, 1⟩) ?_
  unfold f62_n
  refine joinP_cut (fun _ V1 => V1 = V) rfl ?_
  rintro ⟨⟩ V1 rfl
  dsimp only [unc]
  refine mul_ok.mono ?_
  rintro r V2 ⟨rfl, rfl⟩
  refine ⟨_, _, rfl, joinP_cut (fun _ V1 => V1 = V2) rfl ?_⟩
  rintro ⟨⟩ V3 rfl
  dsimp only [unc]
  refine ⟨inI64 (by decide) (by decide), by decide, by decide, by decide, by decide, fun r hr => ?_⟩
  have hfr := View.see_none_of_ge hr
  have hs0 : (V3.put r (.cells ⟨rowH 0⟩ 3 (0, 0))).see r = some (.cells ⟨rowH 0⟩ 3 (0, 0)) := View.see_put_same _ _ _
  refine ⟨[.int .i64 (-1)], ⟨rfl, cellsAt_of_see ((View.put_le hfr).see _ _ h0) (fun j v hj => by simpa using hj)⟩, rfl, canSet_of hs0 (by decide), ?_⟩
  have hle : ∀ (V4 : View) cs, (V3.Le (V4.hide r)) → V3.Le ((V4.put r (.cells ⟨cs⟩ 3 (0, 0))).hide r) := fun V4 cs h => h.trans (hide_le_put_hide r _)
  refine loop1 (k := .int .i64) (fun (x : Int) V4 => ∃ i : Nat, x = i ∧ (i = 1 ∨ i = 2 ∨ i = 4) ∧ V4.see r = some (.cells ⟨rowH i⟩ 3 (0, 0)) ∧ V3.Le (V4.hide r)) (fun (x : Int) _ => 4 - x.toNat) ⟨1, rfl, .inl rfl, ?_, ?_⟩ ?_
  · show ((V3.put r (.cells ⟨rowH 0⟩ 3 (0, 0))).sets ⟨r, 0, none⟩ [.int .i64 (-1)]).see r = _
    rw [sets_see hs0, View.see_put_same]; rfl
  · show V3.Le (((V3.put r (.cells ⟨rowH 0⟩ 3 (0, 0))).sets ⟨r, 0, none⟩ [.int .i64 (-1)]).hide r)
    rw [sets_see hs0]; exact hle _ _ (put_le_hide hfr (View.Le.refl _))
  rintro (x : Int) V4 ⟨i, rfl, hi, hs, hV⟩
  have hrow : ∀ k, k ≤ i → rowAt V4 (some ⟨r, 0, none⟩) (k * 1) (List.replicate k (.int .i64 (-1))) := fun k hk =>
    ⟨by simp, cellsAt_of_see hs fun j v hj => by
      have hjk : j < k := by have := (List.getElem?_eq_some_iff.1 hj).1; simpa using this
      unfold rowH
      rw [List.getElem?_replicate, if_pos hjk] at hj
      show (List.replicate i _ ++ _)[0 + j]? = _
      rw [Nat.zero_add, List.getElem?_append_left (by simp; omega), List.getElem?_replicate, if_pos (by omega)]; exact hj⟩
  rcases hi with rfl | rfl | rfl
  · refine ⟨trivial, by decide, by decide, by decide, by decide, by decide, by decide, [.int .i64 (-1)], hrow 1 (by decide), rfl, canSet_of (off := 1) hs (by decide), inI64 (by decide) (by decide), ⟨2, rfl, .inr (.inl rfl), ?_, ?_⟩, by decide⟩
    · show (V4.sets ⟨r, 1, none⟩ _).see r = _
      rw [sets_see hs, View.see_put_same]; rfl
    · show V3.Le ((V4.sets ⟨r, 1, none⟩ _).hide r)
      rw [sets_see hs]; exact hle _ _ hV
  · refine ⟨trivial, by decide, by decide, by decide, by decide, by decide, by decide, [.int .i64 (-1), .int .i64 (-1)], hrow 2 (by decide), rfl, canSet_of (off := 2) hs (by decide), inI64 (by decide) (by decide), ⟨4, rfl, .inr (.inr rfl), ?_, ?_⟩, by decide⟩
    · show (V4.sets ⟨r, 2, none⟩ _).see r = _
      rw [sets_see hs, View.see_put_same]; rfl
    · show V3.Le ((V4.sets ⟨r, 2, none⟩ _).hide r)
      rw [sets_see hs]; exact hle _ _ hV
  · exact ⟨⟨some ⟨r, 0, none⟩, 4, 4⟩, rfl, slR_block (W := V4) (l := newH) hs ⟨[.int .i64 (-1)], _, rfl, ⟨rfl, inI64 (by decide) (by decide)⟩, [.int .i64 (-1)], _, rfl, ⟨rfl, inI64 (by decide) (by decide)⟩, [.int .i64 (-1)], _, rfl, ⟨rfl, inI64 (by decide) (by decide)⟩, [.int .i64 (-1)], _, rfl, ⟨rfl, inI64 (by decide) (by decide)⟩, rfl⟩ (View.Le.refl _) (by decide), hV.trans (View.hide_le _ _)⟩
theorem newHand_ok {V : View} : CallV Tryz.prog 33 ⟨[]⟩ V fun r V' => ∃ x : Sl, r = .slice x.a x.n x.c ∧ SlR V' x newH ∧ V.Le V' := by
  refine f33_x (_u := ()) ?_
  unfold f33_n
  intro r hr
  refine (repeatH_ok (View.see_put_same _ _ _)).mono ?_
  rintro r V1 ⟨x, rfl, hx, hV⟩
  exact ⟨x, rfl, x, rfl, hx, (View.put_le (View.see_none_of_ge hr)).trans hV⟩
theorem names8_ok {s : Sl} {l : List Ent} {V : View} (h : SlR V s l) (hl : l.length ≤ 1000) : CallV Tryz.prog 103 ⟨[.slice s.a s.n s.c]⟩ V fun r V' => ∃ x : Sl, r = .slice x.a x.n x.c ∧ SlR V' x (l.map Ent.name) ∧ V.Le V' := by
  refine f103_x ?_
  unfold f103_n
  have hsn := h.n
  refine loop2 (k := .sl) (l := .int .i64) (fun (x : Sl) (j : Int) V1 => ∃ (i : Nat) (cs : List Value), j = i ∧ i ≤ l.length ∧ Buf V1 x 9 (Rep.sz ByteArray) cs ∧ repL (V1.minus x) cs ((l.take i).map Ent.name) ∧ V.Le (V1.minus x)) (fun _ (j : Int) _ => l.length - j.toNat) ⟨0, [], rfl, by omega, Buf.nil _ _ _, rfl, View.Le.refl _⟩ ?_
  rintro (x : Sl) (j : Int) V1 ⟨i, cs, rfl, hi, hB, hR, hle⟩
  refine br_intro (fun hlt => ?_) (fun hge => ?_)
  · have hlt : i < l.length := by have := of_decide_eq_true hlt; omega
    obtain ⟨ad, ha, hc, hz, _⟩ := (h.mono (hle.trans (View.minus_le _ _))).entN hlt
    have hn := hB.n_eq (α := ByteArray) hR
    rw [List.length_map, List.length_take] at hn
    refine ⟨by omega, by omega, ad, ha, _, _, hc, fun _ r hr => ?_⟩
    refine app0 (α := ByteArray) (d := (l.getD i default).name) rfl hB hR ⟨rfl, hz⟩ hle hr rfl (by show (x.n + 1) * 16 ≤ _; omega) (by show x.n + 1 ≤ _; omega) fun z V2 cs2 h1 h2 h3 => ?_
    exact ⟨inI64 (by omega) (by omega), ⟨i + 1, cs2, by omega, by omega, h1, by rw [take_snoc hlt, List.map_append]; exact h2, h3⟩, by omega⟩
  · have hge : i = l.length := by have := of_decide_eq_false hge; omega
    subst hge
    rw [List.take_length] at hR
    exact ⟨x, rfl, hB.slR hR (View.minus_le _ _), hle.trans (View.minus_le _ _)⟩
end Go.Proofs.YtoogangnldppaaaGreatDoor

/- Steps: what lasts, what is one's own, what is left alone. -/
namespace Go.Proofs.YtoogangnldppaaaGreatDoor
open Go
/-- From V0 (what lasts) in V to V0' in V': blocks of B may turn, others stay; what V saw beside V0, V0' does not see. -/
structure Mv (B : Nat → Prop) (V0 V V0' V' : View) : Prop where
  pre : V0.Le V
  base : V0.Le V0'
  sub : V0'.Le V'
  apart : ∀ i, V0.see i = none → V.see i ≠ none → V0'.see i = none
  rest : ∀ i o, ¬ B i → V.see i = some o → V'.see i = some o
  keep : ∀ i, V.see i ≠ none → V'.see i ≠ none
  size : V.size ≤ V'.size
theorem Mv.refl {B : Nat → Prop} {V0 V : View} (h : V0.Le V) : Mv B V0 V V0 V := ⟨h, View.Le.refl _, h, fun _ h _ => h, fun _ _ _ h => h, fun _ h => h, Nat.le_refl _⟩
theorem Mv.trans {B : Nat → Prop} {V0 V V1 V' V2 V'' : View} (h : Mv B V0 V V1 V') (k : Mv B V1 V' V2 V'') : Mv B V0 V V2 V'' :=
  ⟨h.pre, h.base.trans k.base, k.sub, fun i a b => k.apart i (h.apart i a b) (h.keep i b), fun i o a b => k.rest i o a (h.rest i o a b), fun i a => k.keep i (h.keep i a), Nat.le_trans h.size k.size⟩
theorem Mv.out {B : Nat → Prop} {V0 V V0' V' : View} (h : Mv B V0 V V0' V') : V'.out = V.out := h.sub.out.trans (h.base.out.trans h.pre.out.symm)
theorem Mv.weaken {B B' : Nat → Prop} {V0 V V0' V' : View} (h : Mv B V0 V V0' V') (hB : ∀ i, B i → B' i ∨ V.see i = none) : Mv B' V0 V V0' V' :=
  ⟨h.pre, h.base, h.sub, h.apart, fun i o a b => h.rest i o (fun hi => (hB i hi).elim a (fun e => by rw [e] at b; cases b)) b, h.keep, h.size⟩
theorem Mv.le {B : Nat → Prop} {V0 V V0' V' : View} (h : Mv B V0 V V0' V') (hB : ∀ i, B i → V.see i = none) : V.Le V' :=
  ⟨h.size, fun i o ho => h.rest i o (fun hi => by rw [hB i hi] at ho; cases ho) ho, h.out⟩
theorem Mv.grow {B : Nat → Prop} {V0 V V' : View} (h : V0.Le V) (hV : V.Le V') : Mv B V0 V V0 V' :=
  ⟨h, View.Le.refl _, h.trans hV, fun _ h _ => h, fun i o _ ho => hV.see i o ho, fun i hi => by
    cases hs : V.see i with
    | none => exact absurd hs hi
    | some o => rw [hV.see i o hs]; simp, hV.size⟩
theorem Mv.put {B : Nat → Prop} {V0 V : View} {r : Nat} (o : Obj) (h : V0.Le V) (hn : V0.see r = none) (hr : B r ∨ V.see r = none) : Mv B V0 V V0 (V.put r o) := by
  refine ⟨h, View.Le.refl _, ⟨Nat.le_trans h.size (Nat.le_max_left _ _), fun i o' hi => ?_, h.out⟩, fun _ h _ => h, fun i o' hb hi => ?_, fun i hi => ?_, Nat.le_max_left _ _⟩
  · have hne : i ≠ r := fun e => by rw [e, hn] at hi; cases hi
    rw [View.see_put_ne _ _ hne]; exact h.see _ _ hi
  · have hne : i ≠ r := by
      rintro rfl
      rcases hr with h1 | h1
      · exact hb h1
      · rw [h1] at hi; cases hi
    rw [View.see_put_ne _ _ hne]; exact hi
  · by_cases e : i = r
    · subst e; rw [View.see_put_same]; simp
    · rw [View.see_put_ne _ _ e]; exact hi
theorem Mv.new {B : Nat → Prop} {V0 V : View} {r : Nat} (o : Obj) (h : V0.Le V) (hr : V.see r = none) : Mv B V0 V (V0.put r o) (V.put r o) := by
  have hn := see_none_le h hr
  refine ⟨h, View.put_le hn, ?_, fun i hi hv => ?_, fun i o' _ hi => (View.put_le hr).see _ _ hi, fun i hi => ?_, Nat.le_max_left _ _⟩
  · refine ⟨?_, fun i o' hi => ?_, h.out⟩
    · show max V0.size _ ≤ max V.size _
      have := h.size; omega
    · by_cases e : i = r
      · subst e; rw [View.see_put_same] at hi ⊢; exact hi
      · rw [View.see_put_ne _ _ e] at hi ⊢; exact h.see _ _ hi
  · have e : i ≠ r := fun e => hv (by rw [e]; exact hr)
    rw [View.see_put_ne _ _ e]; exact hi
  · by_cases e : i = r
    · subst e; exact absurd hr hi
    · rw [View.see_put_ne _ _ e]; exact hi
/-- A block that was made beside what lasts is to last. -/
theorem Mv.share {B : Nat → Prop} {V0 V V0' V' : View} {r : Nat} {o : Obj} (h : Mv B V0 V V0' V') (hr : V.see r = none) (ho : V'.see r = some o) (hn : V0'.see r = none) : Mv B V0 V (V0'.put r o) V' := by
  refine ⟨h.pre, h.base.trans (View.put_le hn), ?_, fun i hi hv => ?_, h.rest, h.keep, h.size⟩
  · refine ⟨?_, fun i o' hi => ?_, h.sub.out⟩
    · show max V0'.size _ ≤ _
      have := h.sub.size
      have := V'.lt r o ho
      omega
    · by_cases e : i = r
      · subst e; rw [View.see_put_same] at hi; rw [← hi]; exact ho
      · rw [View.see_put_ne _ _ e] at hi; exact h.sub.see _ _ hi
  · have e : i ≠ r := fun e => hv (by rw [e]; exact hr)
    rw [View.see_put_ne _ _ e]; exact h.apart i hi hv
theorem CallV.stp {P : Program} {f : FuncId} {args : Array Value} {B : Nat → Prop} {V0 V : View} {K : Value → View → Prop} (hU : V0.Le V) (h : CallV P f args V0 fun r U' => K r U' ∧ V0.Le U') :
    CallV P f args V fun r V' => ∃ V0', K r V0' ∧ Mv B V0 V V0' V' ∧ V.Le V' := by
  refine (CallV.frameG hU h).mono ?_
  rintro r V' ⟨U', h1, h2, h3, h4, h5⟩
  refine ⟨U', h1, ⟨hU, h2, h3, fun i a b => ?_, fun i o _ ho => h4.see i o ho, fun i hi => ?_, h4.size⟩, h4⟩
  · cases hs : V.see i with
    | none => exact absurd hs b
    | some o => exact h5 i o a hs
  · cases hs : V.see i with
    | none => exact absurd hs hi
    | some o => rw [h4.see i o hs]; simp
/-! ### boxes -/
theorem bx {V : View} {p : Nat} {cs : List Value} {e : TypeId} {f : Nat × Nat} (h : V.see p = some (.cells ⟨cs⟩ e f)) (j : Nat) {v : Value} (hj : cs[j]? = some v) : V.cell? ((⟨p, 0, none⟩ : Addr).add j) = some v := by
  rw [addr0_add]; exact cell_of_see h (by simpa using hj)
theorem bx1 {V : View} {p : Nat} {cs : List Value} {e : TypeId} {f : Nat × Nat} (h : V.see p = some (.cells ⟨cs⟩ e f)) (j : Nat) {v : Value} (hj : cs[j]? = some v) : cellsAt V ((⟨p, 0, none⟩ : Addr).add j) [v] := cellsAt_one.2 (bx h j hj)
theorem bxc {V : View} {p : Nat} {cs : List Value} {e : TypeId} (h : V.see p = some (.cells ⟨cs⟩ e (0, 0))) (j k : Nat) (hj : j + k ≤ cs.length) : canSet V ((⟨p, 0, none⟩ : Addr).add j) k := by
  rw [addr0_add]; exact canSet_of h (by omega)
theorem bxe {V : View} {p : Nat} {cs : List Value} {e : TypeId} (h : V.see p = some (.cells ⟨cs⟩ e (0, 0))) (j : Nat) (vs : List Value) : V.sets ((⟨p, 0, none⟩ : Addr).add j) vs = V.put p (.cells ⟨putL cs j vs⟩ e (0, 0)) := by
  rw [addr0_add, sets_see h, Nat.zero_add]
theorem View.put_put (V : View) (p : Nat) (o o' : Obj) : (V.put p o).put p o' = V.put p o' := by
  unfold View.put
  congr 1
  · simp
  · funext j
    by_cases h : j = p
    · simp [h]
    · simp [h]
end Go.Proofs.YtoogangnldppaaaGreatDoor

/- Contracts of package hand, and of the reference's handles. -/
namespace Go.Proofs.YtoogangnldppaaaGreatDoor
open Go
/-- Handles that may not be. -/
def offH (h : List Int) : Bool := !decide (h.length = 4) || h.any fun n => decide (n < -1) || decide (12 ≤ n)
def ofH (h : List Int) (i : Int) : Except Int Int :=
  if offH h = true then .error 1 else if i < 0 ∨ (h.length : Int) ≤ i ∨ h.getD i.toNat 0 = -1 then .error 15 else .ok (h.getD i.toNat 0)
def closeH (h : List Int) (i : Int) : Except Int (List Int × Int) := match ofH h i with
  | .error e => .error e
  | .ok n => .ok (h.set i.toNat (-1), n)
def openH (h : List Int) (node : Int) : Except Int (List Int × Int) :=
  if offH h = true ∨ node < 0 ∨ 12 ≤ node then .error 1 else if idxI (fun n => decide (-1 = n)) h < 0 then .error 15 else
    .ok (h.set (idxI (fun n => decide (-1 = n)) h).toNat node, idxI (fun n => decide (-1 = n)) h)
def heldH (h : List Int) : List Bool := if offH h = true then [] else (List.range 12).map fun (i : Nat) => decide ((i : Int) ∈ h)
def outI : Except Int Int → Value
  | .ok v => .tuple ⟨[.int .i64 v, .int .i64 0]⟩
  | .error e => .tuple ⟨[.int .i64 0, .int .i64 e]⟩
def outL (V V' : View) (r : Value) : Except Int (List Int × Int) → Prop
  | .ok (l, n) => ∃ x : Sl, r = .tuple ⟨[.slice x.a x.n x.c, .int .i64 n, .int .i64 0]⟩ ∧ SlR V' x l ∧ V.Le V'
  | .error e => r = .tuple ⟨[.slice none 0 0, .int .i64 0, .int .i64 e]⟩ ∧ V' = V
theorem offH_len {h : List Int} (ho : offH h = false) : h.length = 4 := by
  unfold offH at ho
  exact of_decide_eq_true (not_f (Bool.or_eq_false_iff.1 ho).1)
theorem offH_mem {h : List Int} (ho : offH h = false) {n : Int} (hn : n ∈ h) : -1 ≤ n ∧ n < 12 := by
  unfold offH at ho
  have := List.any_eq_false.1 (Bool.or_eq_false_iff.1 ho).2 n hn
  simp at this
  omega
theorem getD_mem0 {h : List Int} {i : Nat} (hi : i < h.length) : h.getD i 0 ∈ h := by
  rw [getD_at0 hi]; exact List.getElem_mem hi
theorem offH_get {h : List Int} (ho : offH h = false) {i : Nat} (hi : i < 4) : -1 ≤ h.getD i 0 ∧ h.getD i 0 < 12 :=
  offH_mem ho (getD_mem0 (by rw [offH_len ho]; exact hi))
theorem ofH_ok {h : List Int} {i n : Int} (e : ofH h i = .ok n) : offH h = false ∧ 0 ≤ i ∧ i < 4 ∧ n = h.getD i.toNat 0 ∧ 0 ≤ n ∧ n < 12 := by
  unfold ofH at e
  split at e
  · cases e
  · rename_i ho
    have ho : offH h = false := Bool.eq_false_iff.2 ho
    split at e
    · cases e
    · rename_i hc
      injection e with e
      have hl := offH_len ho
      have := offH_get ho (i := i.toNat) (by omega)
      refine ⟨ho, by omega, by omega, e.symm, ?_, ?_⟩ <;> omega
theorem indexFuncI_ok {p : Int → Bool} {s : Sl} {l : List Int} {V : View} {g : FuncId} {xs ys : List Value} (h : SlR V s l)
    (hp : ∀ b ∈ l, CallV Tryz.prog g ⟨xs ++ [.int .i64 b] ++ ys⟩ V fun r V' => r = .bool (p b) ∧ V' = V) :
    CallV Tryz.prog 183 ⟨[.slice s.a s.n s.c, .func (.func g) ⟨xs⟩ ⟨ys⟩]⟩ V fun r V' => r = .int .i64 (idxI p l) ∧ V' = V := by
  refine f183_x ?_
  unfold f183_n
  have hn := h.n; have hlim := h.lim
  refine loop1 (k := .int .i64) (fun (x : Int) V' => V' = V ∧ 0 ≤ x ∧ x ≤ s.n ∧ ∀ j (hj : j < l.length), (j : Int) < x → p l[j] = false) (fun (x : Int) _ => s.n - x.toNat) ⟨rfl, by omega, by omega, fun j _ hj => by omega⟩ ?_
  rintro (x : Int) V' ⟨rfl, h0, h1, h2⟩
  refine br_intro (fun hlt => ?_) (fun hge => ?_)
  · have hlt : x < s.n := by simpa using hlt
    obtain ⟨ad, hx, ha, hc, _⟩ := h.int h0 hlt
    refine ⟨h0, hlt, ad, ha, _, hc, (hp _ (List.getElem_mem hx)).mono ?_⟩
    rintro r V1 ⟨rfl, rfl⟩
    refine ⟨_, rfl, br_intro (fun hb => ⟨?_, rfl⟩) (fun hb => ⟨inI64 (by omega) (by omega), ⟨rfl, by omega, by omega, fun j hj hjx => ?_⟩, by omega⟩)⟩
    · rw [idxI_first p l x.toNat hx (fun j hj => h2 j (by omega) (by omega)) hb]
      congr 1; omega
    · by_cases e : (j : Int) < x
      · exact h2 j hj e
      · have : j = x.toNat := by omega
        subst this; exact hb
  · have hge : ¬ x < s.n := by simpa using hge
    refine ⟨?_, rfl⟩
    rw [idxI_none p l fun y hy => ?_]
    obtain ⟨j, hj, rfl⟩ := List.getElem_of_mem hy
    exact h2 j hj (by omega)
theorem containsFuncI_ok {p : Int → Bool} {s : Sl} {l : List Int} {V : View} {g : FuncId} {xs ys : List Value} (h : SlR V s l)
    (hp : ∀ b ∈ l, CallV Tryz.prog g ⟨xs ++ [.int .i64 b] ++ ys⟩ V fun r V' => r = .bool (p b) ∧ V' = V) :
    CallV Tryz.prog 166 ⟨[.slice s.a s.n s.c, .func (.func g) ⟨xs⟩ ⟨ys⟩]⟩ V fun r V' => r = .bool (l.any p) ∧ V' = V := by
  refine f166_x ?_
  unfold f166_n
  refine (indexFuncI_ok h hp).mono ?_
  rintro r V' ⟨rfl, rfl⟩
  refine ⟨_, rfl, ?_, rfl⟩
  congr 1
  rcases idxI_range p l with ⟨h1, h2⟩ | ⟨h1, h2, h3⟩
  · rw [h1, h2]; rfl
  · rw [h3]; simpa using h1
theorem indexI_ok {s : Sl} {l : List Int} {v : Int} {V : View} (h : SlR V s l) :
    CallV Tryz.prog 153 ⟨[.slice s.a s.n s.c, .int .i64 v]⟩ V fun r V' => r = .int .i64 (idxI (fun n => decide (v = n)) l) ∧ V' = V := by
  refine f153_x ?_
  unfold f153_n
  have hn := h.n; have hlim := h.lim
  refine loop1 (k := .int .i64) (fun (x : Int) V' => V' = V ∧ 0 ≤ x ∧ x ≤ s.n ∧ ∀ j (hj : j < l.length), (j : Int) < x → decide (v = l[j]) = false) (fun (x : Int) _ => s.n - x.toNat) ⟨rfl, by omega, by omega, fun j _ hj => by omega⟩ ?_
  rintro (x : Int) V' ⟨rfl, h0, h1, h2⟩
  refine br_intro (fun hlt => ?_) (fun hge => ?_)
  · have hlt : x < s.n := by simpa using hlt
    obtain ⟨ad, hx, ha, hc, _⟩ := h.int h0 hlt
    refine ⟨h0, hlt, ad, ha, _, hc, br_intro (fun hb => ⟨?_, rfl⟩) (fun hb => ⟨inI64 (by omega) (by omega), ⟨rfl, by omega, by omega, fun j hj hjx => ?_⟩, by omega⟩)⟩
    · rw [idxI_first (fun n => decide (v = n)) l x.toNat hx (fun j hj => h2 j (by omega) (by omega)) hb]
      congr 1; omega
    · by_cases e : (j : Int) < x
      · exact h2 j hj e
      · have : j = x.toNat := by omega
        subst this; exact hb
  · have hge : ¬ x < s.n := by simpa using hge
    refine ⟨?_, rfl⟩
    rw [idxI_none (fun n => decide (v = n)) l fun y hy => ?_]
    obtain ⟨j, hj, rfl⟩ := List.getElem_of_mem hy
    exact h2 j hj (by omega)
theorem offC_ok {n : Int} {V : View} : CallV Tryz.prog 167 ⟨[.int .i64 n]⟩ V fun r V' => r = .bool (decide (n < -1) || decide (12 ≤ n)) ∧ V' = V := by
  refine f167_x ?_
  unfold f167_n
  refine ⟨?_, rfl⟩
  cases decide (n < -1) <;> rfl
theorem handOff_ok {s : Sl} {h : List Int} {V : View} (hs : SlR V s h) : CallV Tryz.prog 142 ⟨[.slice s.a s.n s.c]⟩ V fun r V' => r = .bool (offH h) ∧ V' = V := by
  refine f142_x ?_
  unfold f142_n
  have hn := hs.n
  refine joinP_cut (fun q V' => q.1 = offH h ∧ V' = V) (br_intro (fun hb => ⟨?_, rfl⟩) (fun hb => (containsFuncI_ok (xs := []) (ys := []) (p := fun n => decide (n < -1) || decide (12 ≤ n)) hs fun b _ => offC_ok).mono ?_)) ?_
  · have := of_decide_eq_false (not_t hb)
    unfold offH
    rw [decide_eq_false (show ¬ h.length = 4 by omega)]; rfl
  · rintro r V' ⟨rfl, rfl⟩
    refine ⟨_, rfl, ?_, rfl⟩
    have := of_decide_eq_true (not_f hb)
    unfold offH
    rw [decide_eq_true (show h.length = 4 by omega)]; rfl
  rintro ⟨q, ⟨⟩⟩ V' ⟨h1, hV⟩
  have h1 : q = offH h := h1
  have hV : V' = V := hV
  subst h1 hV
  exact ⟨rfl, rfl⟩
theorem handOf_ok {s : Sl} {h : List Int} {i : Int} {V : View} (hs : SlR V s h) : CallV Tryz.prog 106 ⟨[.slice s.a s.n s.c, .int .i64 i]⟩ V fun r V' => r = outI (ofH h i) ∧ V' = V := by
  refine f106_x ?_
  unfold f106_n
  have hn := hs.n
  refine (handOff_ok hs).mono ?_
  rintro r V' ⟨rfl, rfl⟩
  refine ⟨_, rfl, br_intro (fun ho => ⟨by unfold ofH; rw [if_pos ho]; rfl, rfl⟩) (fun ho => ?_)⟩
  refine joinP_cut (fun q V1 => q.1 = decide (i < 0 ∨ (h.length : Int) ≤ i ∨ h.getD i.toNat 0 = -1) ∧ V1 = V') (br_intro (fun hb => ⟨?_, rfl⟩) (fun hb => ?_)) ?_
  · refine (decide_eq_true ?_).symm
    simp at hb
    omega
  · simp at hb
    obtain ⟨ad, ha, hc, _⟩ := hs.intN (i := i.toNat) (by omega)
    refine ⟨by omega, by omega, ad, ha, _, hc, ?_, rfl⟩
    refine decide_eq_decide.2 ⟨fun h => .inr (.inr h), ?_⟩
    rintro (h | h | h)
    · omega
    · omega
    · exact h
  rintro ⟨q, ⟨⟩⟩ V1 ⟨h1, hV⟩
  have h1 : q = decide (i < 0 ∨ (h.length : Int) ≤ i ∨ h.getD i.toNat 0 = -1) := h1
  have hV : V1 = V' := hV
  subst h1 hV
  dsimp only [unc]
  have hE : ofH h i = if i < 0 ∨ (h.length : Int) ≤ i ∨ h.getD i.toNat 0 = -1 then .error 15 else .ok (h.getD i.toNat 0) := by
    unfold ofH; rw [if_neg (by rw [ho]; decide)]
  refine br_intro (fun hb => ⟨by rw [hE, if_pos (of_decide_eq_true hb)]; rfl, rfl⟩) (fun hb => ?_)
  have hb := of_decide_eq_false hb
  obtain ⟨ad, ha, hc, _⟩ := hs.intN (i := i.toNat) (by omega)
  exact ⟨by omega, by omega, ad, ha, _, hc, by rw [hE, if_neg hb]; rfl, rfl⟩
end Go.Proofs.YtoogangnldppaaaGreatDoor

/- Contracts of handles that are opened, closed, held. -/
namespace Go.Proofs.YtoogangnldppaaaGreatDoor
open Go
theorem cloneIB_ok {s : Sl} {l : List Int} {V : View} (h : SlR V s l) (hl : l.length ≤ 1000) : CallV Tryz.prog 56 ⟨[.slice s.a s.n s.c]⟩ V fun r V' => ∃ (x : Sl) (cs : List Value), r = .slice x.a x.n x.c ∧ Buf V' x 3 (Rep.sz Int) cs ∧ repL (V'.minus x) cs l ∧ V.Le (V'.minus x) := by
  refine f56_x ?_
  unfold f56_n
  refine br_intro (fun hnil => ?_) (fun _ r hr => ?_)
  · have ha : s.a = none := Option.isNone_iff_eq_none.1 hnil
    have hl0 : l = [] := by
      cases l with
      | nil => rfl
      | cons b l => obtain ⟨ad, vs, h1, _⟩ := h.get 0 (by simp); rw [ha] at h1; cases h1
    subst hl0
    exact ⟨⟨none, 0, 0⟩, [], rfl, Buf.nil _ _ _, rfl, View.Le.refl V⟩
  · have hfr : V.see r = none := View.see_none_of_ge hr
    refine appRow (α := Int) (V0 := V) (l := []) (m := l) rfl (cs := []) ⟨rfl, Nat.le_refl _, Nat.zero_le _, .inr ⟨r, [], rfl, View.see_put_same _ _ _, rfl, rfl⟩⟩ rfl (h.mono ?_) ?_ (by simp; omega) (by simp; omega) ?_
    · exact put_le_hide hfr (View.Le.refl _)
    · exact put_le_hide hfr (View.Le.refl _)
    · intro z V' cs' hb hr' hle
      exact ⟨z, cs', rfl, hb, hr', hle⟩
theorem Buf.setI {V0 V : View} {x : Sl} {cs : List Value} {l : List Int} (h : Buf V x 3 (Rep.sz Int) cs) (hr : repL (V.minus x) cs l) (hV : V0.Le (V.minus x)) {i : Nat} (hi : i < l.length) {v : Int} (hv : inI .i64 v) :
    ∃ ad, x.a = some ad ∧ canSet V (ad.add (i * 1)) 1 ∧ SlR (V.sets (ad.add (i * 1)) [.int .i64 v]) x (l.set i v) ∧ V0.Le (V.sets (ad.add (i * 1)) [.int .i64 v]) := by
  obtain ⟨ad, a, b, c, d, e⟩ := h.setE hr (vs := [.int .i64 v]) (d := v) ⟨rfl, hv⟩ hi
  exact ⟨ad, a, b, c.slR d (View.minus_le _ _), hV.trans (e.trans (View.minus_le _ _))⟩
theorem ofH_err {h : List Int} {i e : Int} (hf : ofH h i = .error e) : e ≠ 0 := by
  unfold ofH at hf
  split at hf
  · injection hf with hf; omega
  · split at hf
    · injection hf with hf; omega
    · cases hf
theorem openH_set {h : List Int} {node : Int} (ho : offH h = false) (h0 : 0 ≤ node) (h1 : node < 12) : openH h node = if idxI (fun n => decide (-1 = n)) h < 0 then .error 15 else
    .ok (h.set (idxI (fun n => decide (-1 = n)) h).toNat node, idxI (fun n => decide (-1 = n)) h) := by
  unfold openH
  rw [if_neg]
  rintro (a | a | a)
  · rw [ho] at a; cases a
  · omega
  · omega
theorem handOpen_ok {s : Sl} {h : List Int} {node : Int} {V : View} (hs : SlR V s h) : CallV Tryz.prog 104 ⟨[.slice s.a s.n s.c, .int .i64 node]⟩ V fun r V' => outL V V' r (openH h node) := by
  refine f104_x ?_
  unfold f104_n
  refine (handOff_ok hs).mono ?_
  rintro r V' ⟨rfl, rfl⟩
  refine ⟨_, rfl, br_intro (fun hb => ?_) (fun hb => ?_)⟩
  · have : offH h = true ∨ node < 0 ∨ 12 ≤ node := by
      cases ho : offH h <;> simp [ho] at hb ⊢ <;> omega
    unfold openH; rw [if_pos this]; exact ⟨rfl, rfl⟩
  · have hc : offH h = false ∧ 0 ≤ node ∧ node < 12 := by
      cases ho : offH h <;> simp [ho] at hb ⊢ <;> omega
    obtain ⟨ho, h0, h12⟩ := hc
    have hE := openH_set ho h0 h12
    have hl := offH_len ho
    refine (indexI_ok hs).mono ?_
    rintro r V1 ⟨rfl, rfl⟩
    refine ⟨_, rfl, br_intro (fun hb => by rw [hE, if_pos (of_decide_eq_true hb)]; exact ⟨rfl, rfl⟩) (fun hb => ?_)⟩
    have hb := of_decide_eq_false hb
    rw [hE, if_neg hb]
    rcases idxI_range (fun n => decide (-1 = n)) h with ⟨a, _⟩ | ⟨a, b, _⟩
    · omega
    generalize idxI (fun n => decide (-1 = n)) h = k at *
    refine (cloneIB_ok hs (by omega)).mono ?_
    rintro r V2 ⟨x, cs, rfl, b1, b2, b3⟩
    obtain ⟨ad, h1, h2, h3, h4⟩ := b1.setI b2 b3 (i := k.toNat) (v := node) (by omega) (inI64 (by omega) (by omega))
    have hxn := (b1.slR b2 (View.minus_le _ _)).n
    exact ⟨x, rfl, a, by omega, ad, h1, h2, x, rfl, h3, h4⟩
theorem handClose_ok {s : Sl} {h : List Int} {i : Int} {V : View} (hs : SlR V s h) : CallV Tryz.prog 105 ⟨[.slice s.a s.n s.c, .int .i64 i]⟩ V fun r V' => outL V V' r (closeH h i) := by
  refine f105_x ?_
  unfold f105_n
  refine (handOf_ok hs).mono ?_
  rintro r V' ⟨rfl, rfl⟩
  cases hof : ofH h i with
  | error e => exact ⟨_, _, rfl, br_intro (fun _ => by unfold closeH; rw [hof]; exact ⟨rfl, rfl⟩) (fun hb => absurd (of_decide_eq_true (not_f hb)) (ofH_err hof))⟩
  | ok n =>
    obtain ⟨ho, h0, h4, _⟩ := ofH_ok hof
    have hl := offH_len ho
    refine ⟨_, _, rfl, br_intro (fun hb => absurd hb (by decide)) fun _ => (cloneIB_ok hs (by omega)).mono ?_⟩
    rintro r V2 ⟨x, cs, rfl, b1, b2, b3⟩
    obtain ⟨ad, h1, h2, h3, h4'⟩ := b1.setI b2 b3 (i := i.toNat) (v := -1) (by omega) (inI64 (by omega) (by omega))
    have hxn := (b1.slR b2 (View.minus_le _ _)).n
    refine ⟨x, rfl, h0, by omega, ad, h1, h2, ?_⟩
    unfold closeH; rw [hof]
    exact ⟨x, rfl, h3, h4'⟩
/-- Which nodes the first handles hold. -/
def heldUpto (h : List Int) (i : Nat) : List Bool := (List.range 12).map fun (j : Nat) => decide ((j : Int) ∈ h.take i)
theorem heldUpto_zero (h : List Int) : heldUpto h 0 = List.replicate 12 false := by
  unfold heldUpto
  apply List.ext_getElem
  · simp
  · intro i _ _; rw [List.getElem_map, List.getElem_replicate]; simp only [List.take_zero]; exact decide_eq_false (by simp)
theorem heldUpto_set {h : List Int} {i q : Nat} (hi : i < h.length) (hq : h.getD i 0 = (q : Int)) : (heldUpto h i).set q true = heldUpto h (i + 1) := by
  unfold heldUpto
  apply List.ext_getElem
  · simp
  · intro j h1 h2
    rw [List.getElem_set]
    simp only [List.getElem_map, List.getElem_range, List.take_add_one, List.getElem?_eq_getElem hi, Option.toList_some]
    rw [getD_at0 hi] at hq
    split
    · rename_i e
      subst e
      simp [hq]
    · rename_i e
      rw [hq]
      simp only [List.mem_append, List.mem_singleton]
      have : ¬ ((j : Int) = (q : Int)) := by omega
      simp [this]
theorem heldUpto_skip {h : List Int} {i : Nat} (hi : i < h.length) (hq : h.getD i 0 < 0) : heldUpto h i = heldUpto h (i + 1) := by
  unfold heldUpto
  apply List.ext_getElem
  · simp
  · intro j h1 h2
    rw [getD_at0 hi] at hq
    simp only [List.getElem_map, List.getElem_range, List.take_add_one, List.getElem?_eq_getElem hi, Option.toList_some, List.mem_append, List.mem_singleton]
    have : ¬ ((j : Int) = h[i]) := by omega
    simp [this]
theorem heldUpto_len (h : List Int) (i : Nat) : (heldUpto h i).length = 12 := by unfold heldUpto; simp
theorem heldUpto_all {h : List Int} (ho : offH h = false) : heldUpto h 4 = heldH h := by
  unfold heldUpto heldH
  rw [ho, if_neg (by decide), List.take_of_length_le (by rw [offH_len ho]; decide)]
theorem handHeld_ok {s : Sl} {h : List Int} {V : View} (hs : SlR V s h) : CallV Tryz.prog 95 ⟨[.slice s.a s.n s.c]⟩ V fun r V' => ∃ x : Sl, r = .slice x.a x.n x.c ∧ SlR V' x (heldH h) ∧ V.Le V' := by
  refine f95_x ?_
  unfold f95_n
  have hn := hs.n
  refine (handOff_ok hs).mono ?_
  rintro r V' ⟨rfl, rfl⟩
  refine ⟨_, rfl, br_intro (fun ho => ?_) (fun ho => ⟨by decide, by decide, by decide, by decide, fun r hr => ?_⟩)⟩
  · unfold heldH; rw [if_pos ho]
    exact ⟨⟨none, 0, 0⟩, rfl, SlR.nil _ _ _, View.Le.refl _⟩
  have hl := offH_len ho
  have hfr : V'.see r = none := View.see_none_of_ge hr
  refine loop1 (k := .int .i64) (fun (x : Int) V1 => ∃ i : Nat, x = i ∧ i ≤ 4 ∧ MI V' V1 r (heldUpto h i)) (fun (x : Int) _ => 4 - x.toNat) ⟨0, rfl, by omega, by rw [heldUpto_zero]; exact View.see_put_same _ _ _, put_le_hide hfr (View.Le.refl _)⟩ ?_
  rintro (x : Int) V1 ⟨i, rfl, hi, hM⟩
  refine br_intro (fun hlt => ?_) (fun hge => ?_)
  · have hlt : i < 4 := by have := of_decide_eq_true hlt; omega
    obtain ⟨ad, ha, hc, _⟩ := (hs.mono hM.vle).intN (i := i) (by omega)
    have hg := offH_get ho hlt
    refine ⟨by omega, by omega, ad, ha, _, hc, joinP_cut (fun _ V2 => MI V' V2 r (heldUpto h (i + 1))) (br_intro (fun hb => ?_) (fun hb => ?_)) ?_⟩
    · have hb := of_decide_eq_false (not_t hb)
      obtain ⟨q, hq⟩ : ∃ q : Nat, h.getD i 0 = q := ⟨(h.getD i 0).toNat, by omega⟩
      obtain ⟨h1, h2⟩ := hM.set (q := q) (by rw [heldUpto_len]; omega)
      rw [hq]
      rw [heldUpto_set (by omega) hq] at h2
      exact ⟨by omega, by omega, _, rfl, h1, h2⟩
    · have hb := of_decide_eq_true (not_f hb)
      rw [← heldUpto_skip (by omega) (by omega)]
      exact hM
    · rintro ⟨⟩ V2 hM2
      exact ⟨inI64 (by omega) (by omega), ⟨i + 1, by omega, by omega, hM2⟩, by omega⟩
  · have hge : i = 4 := by have := of_decide_eq_false hge; omega
    subst hge
    refine ⟨⟨some ⟨r, 0, none⟩, 12, 12⟩, rfl, ?_, hM.vle⟩
    have := slR_block (W := V1) hM.marks rows_bool (View.Le.refl _) (by rw [heldUpto_len]; omega)
    rw [heldUpto_len, heldUpto_all ho] at this
    exact this
end Go.Proofs.YtoogangnldppaaaGreatDoor

/- The model, plain: what the program's one does. -/
namespace Go.Proofs.YtoogangnldppaaaGreatDoor
open Go
/-- A call. -/
structure Cal where
  kind : Int
  path : ByteArray
  to_ : ByteArray
  hand : Int
  at_ : Int
  len : Int
  data : List UInt8
structure CalR (V : View) (y : Sl) (c : Cal) : Prop where
  kind : inI .i64 c.kind
  path : c.path.size ≤ 9223372036854775807
  to_ : c.to_.size ≤ 9223372036854775807
  hand : inI .i64 c.hand
  at_ : inI .i64 c.at_
  len : inI .i64 c.len
  data : SlR V y c.data
theorem CalR.mono {V V' : View} {y : Sl} {c : Cal} (hV : V.Le V') (h : CalR V y c) : CalR V' y c := ⟨h.kind, h.path, h.to_, h.hand, h.at_, h.len, h.data.mono hV⟩
def calL (c : Cal) (y : Sl) : List Value := [.int .i64 c.kind, .string c.path, .string c.to_, .int .i64 c.hand, .int .i64 c.at_, .int .i64 c.len, .slice y.a y.n y.c]
def calV (c : Cal) (y : Sl) : Value := .agg ⟨[.int .i64 c.kind, .string c.path, .string c.to_, .int .i64 c.hand, .int .i64 c.at_, .int .i64 c.len, .slice y.a y.n y.c]⟩
instance : Inhabited Cal := ⟨⟨0, ba [], ba [], 0, 0, 0, []⟩⟩
instance : Rep Cal where
  sz := 7
  pos := by decide
  rep V vs c := ∃ y : Sl, vs = calL c y ∧ CalR V y c
  len h := by obtain ⟨y, h, _⟩ := h; rw [h]; rfl
  one h := by obtain ⟨y, h, _⟩ := h; rw [h]; rfl
  mono hV h := let ⟨y, h, k⟩ := h; ⟨y, h, k.mono hV⟩
theorem SlR.calN {V : View} {s : Sl} {l : List Cal} (h : SlR V s l) {i : Nat} (hi : i < l.length) :
    ∃ ad y, s.a = some ad ∧ cellsAt V (ad.add (i * 7)) (calL (l.getD i default) y) ∧ CalR V y (l.getD i default) := by
  obtain ⟨ad, vs, ha, hc, y, e, hv⟩ := h.get i hi
  subst e
  rw [getD_at hi]
  exact ⟨ad, y, ha, hc, hv⟩
/-- An answer. -/
structure Ans where
  err : Int
  hand : Int
  n : Int
  kind : Int
  links : Int
  data : List UInt8
  names : List ByteArray
  deriving DecidableEq
def Ans.e (e : Int) : Ans := ⟨e, 0, 0, 0, 0, [], []⟩
/-- What an answer's value is. -/
def ansR (V : View) (r : Value) (a : Ans) : Prop := ∃ x y : Sl, r = .agg ⟨[.int .i64 a.err, .int .i64 a.hand, .int .i64 a.n, .int .i64 a.kind, .int .i64 a.links, .slice x.a x.n x.c, .slice y.a y.n y.c]⟩ ∧ SlR V x a.data ∧ SlR V y a.names
/-- The program's model. -/
structure PMod where
  data : Int
  t : Tre
  h : List Int
  P : Int → Option (List UInt8)
  seq : Int
def zero16 : List UInt8 := List.replicate 16 0
/-- The bytes of a page. -/
def pgP (P : Int → Option (List UInt8)) (q : Int) : List UInt8 := if q = 0 then zero16 else (P q).getD zero16
/-- What comes of a call. -/
structure Dee where
  t : Tre
  h : List Int
  todo : List Tod
  a : Ans
noncomputable def namedP (m : PMod) (c : Cal) : Except Int Tre :=
  if c.kind = 1 then makesT m.t c.path 1 else if c.kind = 2 then makesT m.t c.path 2 else if c.kind = 3 then unlinkT m.t c.path (heldH m.h) else
    if c.kind = 4 then rmdirT m.t c.path else if c.kind = 5 then renameT m.t c.path c.to_ (heldH m.h) else linkT m.t c.path c.to_
noncomputable def foundP (m : PMod) (c : Cal) : Except Int Dee := match findT m.t c.path with
  | .error e => .error e
  | .ok i =>
    if c.kind = 7 then .ok ⟨m.t, m.h, [], ⟨0, 0, (m.t.getD i default).size, (m.t.getD i default).kind, (m.t.getD i default).links, [], []⟩⟩ else
    if c.kind = 8 ∧ (m.t.getD i default).kind ≠ 2 then .error 11 else
    if c.kind = 8 then .ok ⟨m.t, m.h, [], ⟨0, 0, 0, 0, 0, [], (m.t.getD i default).ents.map Ent.name⟩⟩ else
    if (m.t.getD i default).kind = 2 then .error 10 else match openH m.h i with
      | .error e => .error e
      | .ok (h, k) => .ok ⟨m.t, h, [], ⟨0, k, 0, 0, 0, [], []⟩⟩
noncomputable def closesP (m : PMod) (c : Cal) : Except Int Dee := match closeH m.h c.hand with
  | .error e => .error e
  | .ok (h, i) => if (m.t.getD i.toNat default).links = 0 ∧ heldB (heldH h) i.toNat = false then match dropT m.t i with
      | .error e => .error e
      | .ok t => .ok ⟨t, h, [], Ans.e 0⟩
    else .ok ⟨m.t, h, [], Ans.e 0⟩
/-- What is read of pieces. -/
def readPg (pg : Int → List UInt8) (l : List Pce) : List UInt8 := l.flatMap fun p => ((pg p.page).take (p.from_ + p.len).toNat).drop p.from_.toNat
noncomputable def heldP (m : PMod) (c : Cal) : Except Int Dee := match ofH m.h c.hand with
  | .error e => .error e
  | .ok i =>
    if c.kind = 12 then match writeT m.t m.data i c.at_ c.data with
      | .error e => .error e
      | .ok (u, l) => .ok ⟨u, m.h, l, ⟨0, 0, c.data.length, 0, 0, [], []⟩⟩
    else if c.kind = 13 then match truncT m.t i c.at_ with
      | .error e => .error e
      | .ok (u, l) => .ok ⟨u, m.h, l, Ans.e 0⟩
    else match readI m.t i c.at_ c.len with
      | .error e => .error e
      | .ok l => .ok ⟨m.t, m.h, [], ⟨0, 0, (readPg (fun p => pgP m.P ((m.t.getD i.toNat default).seqs.getD p.toNat 0)) l).length, 0, 0, readPg (fun p => pgP m.P ((m.t.getD i.toNat default).seqs.getD p.toNat 0)) l, []⟩⟩
noncomputable def deedP (m : PMod) (c : Cal) : Except Int Dee :=
  if 1 ≤ c.kind ∧ c.kind ≤ 6 then (match namedP m c with
    | .error e => .error e
    | .ok t => .ok ⟨t, m.h, [], Ans.e 0⟩)
  else if 7 ≤ c.kind ∧ c.kind ≤ 9 then foundP m c
  else if c.kind = 10 then closesP m c
  else if 11 ≤ c.kind ∧ c.kind ≤ 13 then heldP m c
  else if c.kind = 14 then .ok ⟨m.t, m.h, [], Ans.e 0⟩
  else if c.kind = 15 then .ok ⟨m.t, m.h, [], ⟨0, 0, leftT m.t m.data, 0, freeQ m.t, [], []⟩⟩
  else .error 1
noncomputable def plansP (m : PMod) (c : Cal) : Dee := match deedP m c with
  | .error e => ⟨m.t, m.h, [], Ans.e e⟩
  | .ok d => d
/-- Pages are written, one by one. -/
def putsP : (Int → Option (List UInt8)) → Int → List Tod → (Int → Option (List UInt8))
  | P, _, [] => P
  | P, q, x :: l => putsP (fun k => if k = q + 1 then some (makeB (pgP P x.old) x) else P k) (q + 1) l
theorem putsP_snoc : ∀ (P : Int → Option (List UInt8)) (q : Int) (l : List Tod) (x : Tod), putsP P q (l ++ [x]) = fun k => if k = q + l.length + 1 then some (makeB (pgP (putsP P q l) x.old) x) else putsP P q l k
  | P, q, [], x => by simp [putsP]
  | P, q, y :: l, x => by
    rw [List.cons_append, putsP, putsP_snoc]
    funext k
    have : q + 1 + (l.length : Int) + 1 = q + ((y :: l).length : Int) + 1 := by rw [List.length_cons]; push_cast; omega
    rw [this]; rfl
/-- The node of the pages that are written. -/
def nodeD (l : List Tod) : Nat := match l with
  | [] => 0
  | x :: _ => x.node.toNat
noncomputable def doP (m : PMod) (c : Cal) : PMod :=
  ⟨m.data, doneU (nodeD (plansP m c).todo) (plansP m c).t (plansP m c).todo (upS m.seq (plansP m c).todo.length), (plansP m c).h, putsP m.P m.seq (plansP m c).todo, m.seq + (plansP m c).todo.length⟩
noncomputable def writesP (m : PMod) (c : Cal) : Bool := decide (0 < (plansP m c).todo.length) || !decide ((plansP m c).t = m.t)
/-- A model that may be. -/
structure OkP (m : PMod) : Prop where
  may : mayT m.t = true
  hands : offH m.h = false
  d1 : 1 ≤ m.data
  d2 : m.data ≤ 60
  s0 : 0 ≤ m.seq
  top : TopS m.t m.seq
  p16 : ∀ q b, m.P q = some b → b.length = 16
theorem pgP_len {P : Int → Option (List UInt8)} (h : ∀ q b, P q = some b → b.length = 16) (q : Int) : (pgP P q).length = 16 := by
  unfold pgP
  split
  · rfl
  · cases hp : P q with
    | none => rfl
    | some b => exact h q b hp
/-! ### how it lies in memory -/
def PagesR (W : View) (es : List MapEntry) (P : Int → Option (List UInt8)) : Prop := IntK es ∧ ∀ q, match P q with
  | none => vlk q es = none
  | some b => ∃ y : Sl, vlk q es = some (.slice y.a y.n y.c) ∧ SlR W y b
theorem PagesR.mono {W W' : View} {es : List MapEntry} {P : Int → Option (List UInt8)} (hW : W.Le W') (h : PagesR W es P) : PagesR W' es P := by
  refine ⟨h.1, fun q => ?_⟩
  have := h.2 q
  cases hp : P q with
  | none => rw [hp] at this; exact this
  | some b => rw [hp] at this; obtain ⟨y, h1, h2⟩ := this; exact ⟨y, h1, h2.mono hW⟩
structure ModC (V0 V : View) (p mb : Nat) (m : PMod) (s hs : Sl) (es : Array MapEntry) (cl : Nat) : Prop where
  box : V.see p = some (.cells ⟨[.int .i64 m.data, .slice s.a s.n s.c, .slice hs.a hs.n hs.c, .map (some mb), .int .i64 m.seq]⟩ 71 (0, 0))
  map : V.see mb = some (.map es cl)
  tre : SlR V0 s m.t
  hands : SlR V0 hs m.h
  pages : PagesR V0 es.toList m.P
structure ModR (V0 V : View) (p mb : Nat) (m : PMod) : Prop where
  le : V0.Le V
  np : V0.see p = none
  nm : V0.see mb = none
  ne : p ≠ mb
  ex : ∃ (s hs : Sl) (es : Array MapEntry) (cl : Nat), ModC V0 V p mb m s hs es cl
theorem ModC.stp {B : Nat → Prop} {V0 V V0' V' : View} {p mb : Nat} {m : PMod} {s hs : Sl} {es : Array MapEntry} {cl : Nat} (h : ModC V0 V p mb m s hs es cl) (k : Mv B V0 V V0' V') (h1 : ¬ B p) (h2 : ¬ B mb) : ModC V0' V' p mb m s hs es cl :=
  ⟨k.rest _ _ h1 h.box, k.rest _ _ h2 h.map, h.tre.mono k.base, h.hands.mono k.base, h.pages.mono k.base⟩
theorem ModR.stp {B : Nat → Prop} {V0 V V0' V' : View} {p mb : Nat} {m : PMod} (h : ModR V0 V p mb m) (k : Mv B V0 V V0' V') (h1 : ¬ B p) (h2 : ¬ B mb) : ModR V0' V' p mb m := by
  obtain ⟨s, hs, es, cl, hc⟩ := h.ex
  exact ⟨k.sub, k.apart _ h.np (by rw [hc.box]; simp), k.apart _ h.nm (by rw [hc.map]; simp), h.ne, s, hs, es, cl, hc.stp k h1 h2⟩
/-- What is to come, as a deed's cells. -/
structure DeeR (W : View) (cs : List Value) (d : Dee) : Prop where
  ex : ∃ s hs y x n : Sl, cs = [.slice s.a s.n s.c, .slice hs.a hs.n hs.c, .slice y.a y.n y.c, .int .i64 d.a.err, .int .i64 d.a.hand, .int .i64 d.a.n, .int .i64 d.a.kind, .int .i64 d.a.links, .slice x.a x.n x.c, .slice n.a n.n n.c] ∧
    SlR W s d.t ∧ SlR W hs d.h ∧ SlR W y d.todo ∧ SlR W x d.a.data ∧ SlR W n d.a.names
theorem DeeR.mono {W W' : View} {cs : List Value} {d : Dee} (hW : W.Le W') (h : DeeR W cs d) : DeeR W' cs d := by
  obtain ⟨s, hs, y, x, n, e, h1, h2, h3, h4, h5⟩ := h.ex
  exact ⟨s, hs, y, x, n, e, h1.mono hW, h2.mono hW, h3.mono hW, h4.mono hW, h5.mono hW⟩
/-- How a deed's function ends. -/
def deeO (b : Nat) (V0 V : View) (r : Value) : Except Int Dee → Prop
  | .error e => r = .int .i64 e ∧ e ≠ 0
  | .ok d => r = .int .i64 0 ∧ ∃ cs, V.see b = some (.cells ⟨cs⟩ 74 (0, 0)) ∧ DeeR V0 cs d
end Go.Proofs.YtoogangnldppaaaGreatDoor

/- Steps of a script of calls on names; TreeMay. -/
namespace Go.Proofs.YtoogangnldppaaaGreatDoor
open Go
structure Stp where
  do_ : Int
  n : Int
  path : ByteArray
  to_ : ByteArray
  held : List Bool
instance : Inhabited Stp := ⟨⟨0, 0, ⟨#[]⟩, ⟨#[]⟩, []⟩⟩
instance : Rep Stp where
  sz := 5
  pos := by decide
  rep V vs c := ∃ s : Sl, vs = [.int .i64 c.do_, .int .i64 c.n, .string c.path, .string c.to_, .slice s.a s.n s.c] ∧ inI .i64 c.n ∧ c.path.size ≤ 9223372036854775807 ∧ c.to_.size ≤ 9223372036854775807 ∧ SlR V s c.held
  len h := by obtain ⟨s, h, _⟩ := h; rw [h]; rfl
  one h := by obtain ⟨s, h, _⟩ := h; rw [h]; rfl
  mono hV h := let ⟨s, h, h0, h1, h2, h3⟩ := h; ⟨s, h, h0, h1, h2, h3.mono hV⟩
theorem SlR.stp {V : View} {s : Sl} {l : List Stp} (h : SlR V s l) {i : Nat} (hi : i < l.length) : ∃ ad y, s.a = some ad ∧ cellsAt V (ad.add (((i : Int)).toNat * 5)) [.int .i64 l[i].do_, .int .i64 l[i].n, .string l[i].path, .string l[i].to_, .slice y.a y.n y.c] ∧ inI .i64 l[i].n ∧ l[i].path.size ≤ 9223372036854775807 ∧ l[i].to_.size ≤ 9223372036854775807 ∧ SlR V y l[i].held := by
  have hn := h.n
  obtain ⟨ad, vs, hx, ha, hc, y, rfl, h1, h2, h3, h4⟩ := h.ld (x := (i : Int)) (by omega) (by omega)
  exact ⟨ad, y, ha, hc, h1, h2, h3, h4⟩
/-! ### the calls that every program must know -/
end Go.Proofs.YtoogangnldppaaaGreatDoor

/- What is found behind a call on names: plain laws. -/
namespace Go.Proofs.YtoogangnldppaaaGreatDoor
open Go
theorem goF_app {t : Tre} {m : List ByteArray} : ∀ {l : List ByteArray} {a d : Nat}, goF t a l = .ok d → goF t a (l ++ m) = goF t d m
  | [], a, d, h => by cases h; rfl
  | s :: l, a, d, h => by
    rw [goF_cons] at h
    rw [List.cons_append, goF_cons]
    split at h
    · rename_i hk
      rw [if_pos hk]
      split at h
      · cases h
      · rename_i h0
        rw [if_neg h0]; exact goF_app h
    · cases h
theorem goF_at {t : Tre} {d : Nat} {s : ByteArray} (hk : kindT t d = 2) : goF t d [s] = if atI (entsT t d) s < 0 then .error 8 else .ok (atI (entsT t d) s).toNat := by
  rw [goF_cons, if_pos hk]; rfl
theorem Par.findAt {t : Tre} {p s : ByteArray} {ld : List ByteArray} {d : Nat} (h : Par t p ld d s) : findT t p = if atI (entsT t d) s < 0 then .error 8 else .ok (atI (entsT t d) s).toNat := by
  rw [h.find, goF_app h.go, goF_at h.kind]
theorem Par.found {t : Tre} {p s : ByteArray} {ld : List ByteArray} {d i : Nat} (h : Par t p ld d s) (ha : atI (entsT t d) s = i) : findT t p = .ok i := by
  rw [h.findAt, ha, if_neg (by omega), Int.toNat_natCast]
theorem find_may {t : Tre} {p : ByteArray} {i : Nat} (h : findT t p = .ok i) : mayT t = true := by
  unfold findT at h; split at h; assumption; cases h
/-- What is found, and is not the root, has a parent and a name. -/
theorem find_par {t : Tre} {p : ByteArray} {i : Nat} (h : findT t p = .ok i) (hi : i ≠ 0) : ∃ ld d s, Par t p ld d s ∧ atI (entsT t d) s = i := by
  have hM := find_may h
  unfold findT at h
  rw [if_pos hM] at h
  cases hs : splitP p with
  | none => rw [hs] at h; cases h
  | some l =>
    rw [hs] at h
    have h : goF t 0 l = .ok i := h
    rcases nil_or_snoc l with rfl | ⟨ld, s, rfl⟩
    · cases h; exact absurd rfl hi
    · obtain ⟨d, h1, h2⟩ := (goF_snoc t s ld 0 i).1 h
      obtain ⟨hk, e, he, hn, hq⟩ := goF_one h2
      refine ⟨ld, d, s, ⟨hM, hs, h1, hk⟩, ?_⟩
      have := atI_of ((mayF hM).pair d) he
      rw [hn] at this
      have h3 := (mayF hM).ent he
      omega
theorem atI_none {l : List Ent} {s : ByteArray} (h : hasE l s = false) : atI l s = -1 := by
  unfold atI
  rw [List.find?_eq_none.2]
  intro e he
  simpa using has_false.1 h e he
theorem atI_at {l : List Ent} (h : mayL l = true) {e : Ent} (he : e ∈ l) : atI l e.name = e.node := atI_of (mayL_pair h) he
theorem atI_ins {l : List Ent} {x : Ent} (hl : mayL l = true) (h : mayL (insE l x) = true) (s : ByteArray) : atI (insE l x) s = if x.name = s then x.node else atI l s := by
  by_cases hs : x.name = s
  · rw [if_pos hs, ← hs]; exact atI_at h (ins_mem.2 (.inl rfl))
  · rw [if_neg hs]
    cases hh : hasE l s with
    | true =>
      obtain ⟨e, he, hn⟩ := has_true.1 hh
      rw [← hn, atI_at hl he]; exact atI_at h (ins_mem.2 (.inr he))
    | false =>
      rw [atI_none hh]
      refine atI_none (has_false.2 fun e he => ?_)
      rcases ins_mem.1 he with rfl | he
      · exact hs
      · exact has_false.1 hh e he
theorem go_keep {t u : Tre} {A : Nat → Prop} (hk : ∀ p e, e ∈ entsT t p → ¬ A e.node.toNat → kindT u p = 2 ∧ atI (entsT u p) e.name = atI (entsT t p) e.name) :
    ∀ {l : List ByteArray} {a q : Nat}, goF t a l = .ok q → (∀ i, A i → ¬ Reach t i q) → goF u a l = .ok q
  | [], a, q, h, _ => by cases h; rfl
  | s :: l, a, q, h, hA => by
    rw [goF_cons] at h
    split at h
    · split at h
      · cases h
      · rename_i h0
        obtain ⟨e, he, hn, hq⟩ := atI_mem h0
        have hr := goF_reach h
        rw [← hq] at hr
        obtain ⟨h1, h2⟩ := hk a e he fun hA2 => hA _ hA2 hr
        rw [hn] at h2
        rw [goF_cons, if_pos h1, h2, if_neg h0]
        exact go_keep hk h hA
    · cases h
/-- What is known of a new node. -/
structure NewN (t u : Tre) (p : ByteArray) (k : Int) (ld : List ByteArray) (d : Nat) (s : ByteArray) (i : Nat) : Prop where
  P : Par t p ld d s
  no : atI (entsT t d) s = -1
  i0 : i ≠ 0
  i12 : i < 12
  id : i ≠ d
  free : kindT t i = 0
  room : (entsT t d).length < 10
  eq : u = (entT t d (insE (entsT t d) ⟨s, i⟩)).set i (emptyN k)
  at_ : ∀ j, u.getD j default = if j = i then emptyN k else if j = d then { t.getD d default with ents := insE (entsT t d) ⟨s, i⟩ } else t.getD j default
  may : mayT u = true
  insM : mayL (insE (entsT t d) ⟨s, i⟩) = true
section
variable {t u : Tre} {p s : ByteArray} {k : Int} {ld : List ByteArray} {d i : Nat}
theorem NewN.len (h : NewN t u p k ld d s i) : u.length = 12 := (mayT_all h.may).1
theorem NewN.entsD (h : NewN t u p k ld d s i) : entsT u d = insE (entsT t d) ⟨s, i⟩ := by
  unfold entsT; rw [h.at_, if_neg (fun e => h.id e.symm), if_pos rfl]
theorem NewN.entsO (h : NewN t u p k ld d s i) {j : Nat} (h1 : j ≠ i) (h2 : j ≠ d) : entsT u j = entsT t j := by
  unfold entsT; rw [h.at_, if_neg h1, if_neg h2]
theorem NewN.kindO (h : NewN t u p k ld d s i) {j : Nat} (h1 : j ≠ i) : kindT u j = kindT t j := by
  unfold kindT; rw [h.at_, if_neg h1]; split
  · rename_i e; subst e; rfl
  · rfl
theorem NewN.atD (h : NewN t u p k ld d s i) (n : ByteArray) : atI (entsT u d) n = if s = n then (i : Int) else atI (entsT t d) n := by
  rw [h.entsD, atI_ins h.P.mayL h.insM]
theorem NewN.keep (h : NewN t u p k ld d s i) {l : List ByteArray} {a q : Nat} (hg : goF t a l = .ok q) : goF u a l = .ok q := by
  refine go_keep (A := fun _ => False) (fun p' e he _ => ?_) hg (fun _ h => h.elim)
  have hF := mayF h.P.may
  have hp := hF.ent he
  have hpi : p' ≠ i := fun e => by rw [e, h.free] at hp; exact absurd hp.2.1 (by decide)
  refine ⟨by rw [h.kindO hpi]; exact hp.2.1, ?_⟩
  by_cases hpd : p' = d
  · subst hpd
    rw [h.atD, if_neg]
    intro hs
    have := atI_at h.P.mayL he
    rw [← hs, h.no] at this
    omega
  · rw [h.entsO hpi hpd]
theorem NewN.par (h : NewN t u p k ld d s i) : Par u p ld d s := ⟨h.may, h.P.split, h.keep h.P.go, by rw [h.kindO (fun e => h.id e.symm)]; exact h.P.kind⟩
theorem NewN.find (h : NewN t u p k ld d s i) : findT u p = .ok i := h.par.found (by rw [h.atD, if_pos rfl])
theorem NewN.zero (h : NewN t u p k ld d s i) : t.getD i default = Nod.zero := zero_of (mayF h.P.may) h.i12 h.free
end
end Go.Proofs.YtoogangnldppaaaGreatDoor

/- Contracts of the model's inner functions: page, named, found, closes. -/
namespace Go.Proofs.YtoogangnldppaaaGreatDoor
open Go
/-- Is it there? -/
theorem mfind_is {k : Int} {es : List MapEntry} (h : IntK es) : ∃ f, mfind (.int .i64 k) es 0 = some f ∧ f.isSome = (vlk k es).isSome ∧ ∀ z, found z f = (vlk k es).getD z := by
  obtain ⟨f, h1, h2⟩ := mfind_int (k := k) h 0
  refine ⟨f, h1, ?_⟩
  rcases h2 with ⟨rfl, h3⟩ | ⟨j, v, rfl, h3, _⟩
  · rw [h3]; exact ⟨rfl, fun _ => rfl⟩
  · rw [h3]; exact ⟨rfl, fun _ => rfl⟩
section
variable {V0 V : View} {p mb b : Nat} {m : PMod} {c : Cal} {y : Sl} {s hs : Sl} {es : Array MapEntry} {cl : Nat}
theorem modPage_ok (hm : ModC V0 V p mb m s hs es cl) (hle : V0.Le V) (q : Int) : CallV Tryz.prog 36 ⟨[.pointer (some ⟨p, 0, none⟩), .int .i64 q]⟩ V fun r V' => ∃ z : Sl, r = .slice z.a z.n z.c ∧ SlR V' z (pgP m.P q) ∧ V.Le V' := by
  refine f36_x ?_
  unfold f36_n
  obtain ⟨f, h1, h2, h3⟩ := mfind_is (k := q) hm.pages.1
  have hq := hm.pages.2 q
  have hz : ∀ r, V.size ≤ r → SlR (V.put r (.cells ⟨u8s zero16⟩ 5 (0, 0))) ⟨some ⟨r, 0, none⟩, 16, 16⟩ zero16 := fun r _ => slR_block (W := V) (l := zero16) (View.see_put_same _ _ _) (u8s_rep _) (View.put_le (View.see_none_of_ge (by assumption))) (by decide)
  have hle' : ∀ r o, V.size ≤ r → V.Le (V.put r o) := fun r o h => View.put_le (View.see_none_of_ge h)
  refine ⟨_, rfl, some mb, bx hm.box 3 rfl, trivial, es, cl, f, hm.map, h1, ?_⟩
  cases hp : m.P q with
  | none =>
    rw [hp] at hq
    have hq : vlk q es.toList = none := hq
    rw [h3, h2, hq]
    refine ⟨⟨none, 0, 0⟩, rfl, br_intro (fun h => by cases h) (fun _ => ⟨by decide, by decide, by decide, by decide, fun r hr => ?_⟩)⟩
    have e : pgP m.P q = zero16 := by unfold pgP; rw [hp]; split <;> rfl
    rw [e]
    exact ⟨⟨some ⟨r, 0, none⟩, 16, 16⟩, rfl, hz r hr, hle' r _ hr⟩
  | some w =>
    rw [hp] at hq
    obtain ⟨z, hq1, hq2⟩ := hq
    rw [h3, h2, hq1]
    refine ⟨z, rfl, br_intro (fun hb => ?_) (fun hb => ⟨by decide, by decide, by decide, by decide, fun r hr => ?_⟩)⟩
    · have hb : ¬ q = 0 := by simpa using hb
      have e : pgP m.P q = w := by unfold pgP; rw [if_neg hb, hp]; rfl
      rw [e]
      exact ⟨z, rfl, hq2.mono hle, View.Le.refl _⟩
    · have hb : q = 0 := by simpa using hb
      have e : pgP m.P q = zero16 := by unfold pgP; rw [if_pos hb]
      rw [e]
      exact ⟨⟨some ⟨r, 0, none⟩, 16, 16⟩, rfl, hz r hr, hle' r _ hr⟩
/-- What a call on names tells, in what lasts. -/
def outTS (V0 V V' : View) (r : Value) (o : Except Int Tre) : Prop := ∃ (V0' : View) (x : Sl) (e : Int), r = .tuple ⟨[treV x, .int .i64 e]⟩ ∧ (match o with
  | .ok u => e = 0 ∧ SlR V0' x u
  | .error c => e = c ∧ c ≠ 0) ∧ Mv (fun _ => False) V0 V V0' V'
theorem outT_stp {f : FuncId} {args : Array Value} {o : Except Int Tre} (hle : V0.Le V) (h : CallV Tryz.prog f args V0 fun r V' => outT V0 V' r o) : CallV Tryz.prog f args V fun r V' => outTS V0 V V' r o := by
  refine (CallV.stp (B := fun _ => False) (K := fun r V' => outT V0 V' r o) hle (h.mono fun r V' h => ⟨h, h.2⟩)).mono ?_
  rintro r V' ⟨V0', ⟨⟨x, e, h1, h2⟩, _⟩, h3, _⟩
  refine ⟨V0', x, e, h1, ?_, h3⟩
  cases o with
  | ok u => exact h2
  | error c => exact ⟨h2.1, h2.2.1⟩
theorem modNamed_ok (hm : ModC V0 V p mb m s hs es cl) (hle : V0.Le V) (hc : CalR V0 y c) (hg : Glo V0) : CallV Tryz.prog 63 ⟨[.pointer (some ⟨p, 0, none⟩), calV c y]⟩ V fun r V' => outTS V0 V V' r (namedP m c) := by
  refine f63_x ?_
  unfold f63_n
  refine fun _ _ => ⟨_, rfl, hs, bx hm.box 2 rfl, ?_⟩
  refine (CallV.stp (B := fun _ => False) (K := fun r V' => ∃ x : Sl, r = .slice x.a x.n x.c ∧ SlR V' x (heldH m.h)) hle ((handHeld_ok hm.hands).mono fun r V' ⟨x, h1, h2, h3⟩ => ⟨⟨x, h1, h2⟩, h3⟩)).mono ?_
  rintro r V1 ⟨V01, ⟨x, rfl, hx⟩, hS1, hV1⟩
  have hm1 := hm.stp hS1 id id
  have hc1 := hc.mono hS1.base
  have hg1 := hg.mono hS1.base
  have fin : ∀ (r : Value) (V2 : View) (o : Except Int Tre), outTS V01 V1 V2 r o → ∃ (x : Sl) (e : Int), r = .tuple ⟨[.agg ⟨[.slice x.a x.n x.c]⟩, .int .i64 e]⟩ ∧ outTS V0 V V2 (.tuple ⟨[.agg ⟨[.slice x.a x.n x.c]⟩, .int .i64 e]⟩) o := by
    rintro r V2 o ⟨V02, x, e, rfl, h1, h2⟩
    exact ⟨x, e, rfl, V02, x, e, rfl, h1, hS1.trans h2⟩
  have hcell := bx1 hm1.box 1 rfl
  unfold namedP
  refine ⟨x, rfl, br_intro (fun hk => ?_) (fun hk => br_intro (fun hk2 => ?_) (fun hk2 => br_intro (fun hk3 => ?_) (fun hk3 => br_intro (fun hk4 => ?_) (fun hk4 => br_intro (fun hk5 => ?_) (fun hk5 => ?_)))))⟩
  · rw [if_pos (of_decide_eq_true hk)]
    exact ⟨trivial, V1, View.Le.refl _, _, rfl, s, hcell, (outT_stp hS1.sub (create_ok hm1.tre hc.path hg1)).mono fun r V2 h => fin r V2 _ h⟩
  · rw [if_neg (of_decide_eq_false hk), if_pos (of_decide_eq_true hk2)]
    exact ⟨trivial, V1, View.Le.refl _, _, rfl, s, hcell, (outT_stp hS1.sub (mkdir_ok hm1.tre hc.path hg1)).mono fun r V2 h => fin r V2 _ h⟩
  · rw [if_neg (of_decide_eq_false hk), if_neg (of_decide_eq_false hk2), if_pos (of_decide_eq_true hk3)]
    exact ⟨trivial, V1, View.Le.refl _, _, rfl, s, hcell, (outT_stp hS1.sub (unlink_ok hm1.tre hx hc.path hg1)).mono fun r V2 h => fin r V2 _ h⟩
  · rw [if_neg (of_decide_eq_false hk), if_neg (of_decide_eq_false hk2), if_neg (of_decide_eq_false hk3), if_pos (of_decide_eq_true hk4)]
    exact ⟨trivial, V1, View.Le.refl _, _, rfl, s, hcell, (outT_stp hS1.sub (rmdir_ok hm1.tre hc.path hg1)).mono fun r V2 h => fin r V2 _ h⟩
  · rw [if_neg (of_decide_eq_false hk), if_neg (of_decide_eq_false hk2), if_neg (of_decide_eq_false hk3), if_neg (of_decide_eq_false hk4), if_pos (of_decide_eq_true hk5)]
    exact ⟨trivial, V1, View.Le.refl _, _, rfl, s, hcell, (outT_stp hS1.sub (rename_ok hm1.tre hx hc.path hc.to_ hg1)).mono fun r V2 h => fin r V2 _ h⟩
  · rw [if_neg (of_decide_eq_false hk), if_neg (of_decide_eq_false hk2), if_neg (of_decide_eq_false hk3), if_neg (of_decide_eq_false hk4), if_neg (of_decide_eq_false hk5)]
    exact ⟨trivial, V1, View.Le.refl _, _, rfl, s, hcell, (outT_stp hS1.sub (link_ok hm1.tre hc.path hc.to_ hg1)).mono fun r V2 h => fin r V2 _ h⟩
/-- A deed's box: one's own, beside the model. -/
structure DBox (V0 V : View) (b p mb : Nat) (d : Dee) : Prop where
  no : V0.see b = none
  bp : b ≠ p
  bm : b ≠ mb
  ex : ∃ cs, V.see b = some (.cells ⟨cs⟩ 74 (0, 0)) ∧ DeeR V0 cs d
theorem DBox.stp {B : Nat → Prop} {V0' V' : View} {d : Dee} (h : DBox V0 V b p mb d) (k : Mv B V0 V V0' V') (h1 : ¬ B b) : DBox V0' V' b p mb d := by
  obtain ⟨cs, e1, e2⟩ := h.ex
  exact ⟨k.apart _ h.no (by rw [e1]; simp), h.bp, h.bm, cs, k.rest _ _ h1 e1, e2.mono k.base⟩
/-- Some of its cells are set. -/
theorem DBox.set {d d' : Dee} (h : DBox V0 V b p mb d) (hle : V0.Le V) (j : Nat) (vs : List Value) (hj : j + vs.length ≤ 10) (hd : ∀ cs, DeeR V0 cs d → DeeR V0 (putL cs j vs) d') :
    canSet V ((⟨b, 0, none⟩ : Addr).add j) vs.length ∧ DBox V0 (V.sets ((⟨b, 0, none⟩ : Addr).add j) vs) b p mb d' ∧ Mv (fun i => i = b) V0 V V0 (V.sets ((⟨b, 0, none⟩ : Addr).add j) vs) := by
  obtain ⟨cs, e1, e2⟩ := h.ex
  have hl : cs.length = 10 := by obtain ⟨_, _, _, _, _, e, _⟩ := e2.ex; rw [e]; rfl
  rw [bxe e1]
  exact ⟨bxc e1 _ _ (by omega), ⟨h.no, h.bp, h.bm, _, View.see_put_same _ _ _, hd cs e2⟩, Mv.put _ hle h.no (.inl rfl)⟩
theorem find_err {t : Tre} {q : ByteArray} {e : Int} (h : findT t q = .error e) : e ≠ 0 := ends_only h
theorem find_lt {t : Tre} {q : ByteArray} {i : Nat} (h : findT t q = .ok i) : i < 12 := findT_range h
theorem open_err {h : List Int} {i e : Int} (ho : openH h i = .error e) : e ≠ 0 := by
  unfold openH at ho
  split at ho
  · cases ho; decide
  · split at ho
    · cases ho; decide
    · cases ho
theorem modFound_ok (hm : ModC V0 V p mb m s hs es cl) (hle : V0.Le V) (hd : DBox V0 V b p mb ⟨m.t, m.h, [], Ans.e 0⟩) (hc : CalR V0 y c) (hg : Glo V0) : CallV Tryz.prog 64 ⟨[.pointer (some ⟨p, 0, none⟩), calV c y, .pointer (some ⟨b, 0, none⟩)]⟩ V fun r V' => ∃ V0', Mv (fun i => i = b) V0 V V0' V' ∧ deeO b V0' V' r (foundP m c) := by
  refine f64_x ?_
  unfold f64_n
  refine fun _ => ⟨trivial, V, View.Le.refl _, _, rfl, s, bx1 hm.box 1 rfl, ?_⟩
  refine (CallV.stp (B := fun i => i = b) (K := fun r V' => r = outF (findT m.t c.path)) hle (dirFind_ok hm.tre hc.path hg)).mono ?_
  rintro r V1 ⟨V01, rfl, hS1, hV1⟩
  have hm1 := hm.stp hS1 (fun e => hd.bp e.symm) (fun e => hd.bm e.symm)
  have hP : foundP m c = match findT m.t c.path with
    | .error e => .error e
    | .ok i => if c.kind = 7 then .ok ⟨m.t, m.h, [], ⟨0, 0, (m.t.getD i default).size, (m.t.getD i default).kind, (m.t.getD i default).links, [], []⟩⟩ else
          if c.kind = 8 ∧ (m.t.getD i default).kind ≠ 2 then .error 11 else
          if c.kind = 8 then .ok ⟨m.t, m.h, [], ⟨0, 0, 0, 0, 0, [], (m.t.getD i default).ents.map Ent.name⟩⟩ else
          if (m.t.getD i default).kind = 2 then .error 10 else match openH m.h i with
            | .error e => .error e
            | .ok (h, k) => .ok ⟨m.t, h, [], ⟨0, k, 0, 0, 0, [], []⟩⟩ := rfl
  cases hf : findT m.t c.path with
  | error e =>
    rw [hf] at hP
    rw [hP]
    exact ⟨_, _, rfl, br_intro (fun _ => ⟨V01, hS1, rfl, find_err hf⟩) (fun h => absurd (of_decide_eq_true (not_f h)) (find_err hf))⟩
  | ok i =>
    rw [hf] at hP
    dsimp only at hP
    have hd1 : DBox V01 V1 b p mb ⟨m.t, m.h, [], Ans.e 0⟩ := by
      obtain ⟨cs, e1, e2⟩ := hd.ex
      exact ⟨hS1.apart _ hd.no (by rw [e1]; simp), hd.bp, hd.bm, cs, hV1.see _ _ e1, e2.mono hS1.base⟩
    have hi := find_lt hf
    have h12 := (mayF (find_may hf)).len
    have hsn := hm1.tre.n
    obtain ⟨ad, sq, en, ha, hcc, hN⟩ := (hm1.tre.mono hS1.sub).nodN (i := i) (by omega)
    obtain ⟨ad', sq', en', ha', hcc', hN'⟩ := hm1.tre.nodN (i := i) (by omega)
    have hen : en' = en := by
      rw [ha] at ha'; cases ha'
      have h1 := hcc 4 _ rfl
      have h2 := hS1.sub.cell (hcc' 4 _ rfl)
      rw [h1] at h2
      cases en; cases en'
      simp only [Option.some.injEq, Value.slice.injEq] at h2
      obtain ⟨rfl, rfl, rfl⟩ := h2
      rfl
    subst hen
    refine ⟨_, _, rfl, br_intro (fun h => absurd h (by decide)) (fun _ => ⟨_, rfl, s, by rw [Addr.add_add]; exact bx hm1.box 1 rfl, by omega, by omega, ad, ha, _, _, _, sq, en', hcc, fun _ => ?_⟩)⟩
    have hfin : ∀ (e : Int) (V2 : View), (∃ V02, Mv (fun i => i = b) V0 V V02 V2 ∧ deeO b V02 V2 (.int .i64 e) (foundP m c)) → ∃ V0', Mv (fun i => i = b) V0 V V0' V2 ∧ deeO b V0' V2 (.int .i64 e) (foundP m c) := fun _ _ h => h
    refine joinP_cut (fun q V2 => ∃ V02, Mv (fun i => i = b) V0 V V02 V2 ∧ deeO b V02 V2 (.int .i64 q.1) (foundP m c)) (br_intro (fun hk => ?_) (fun hk => br_intro (fun hk2 => ?_) (fun hk2 => ?_))) (by rintro ⟨q, ⟨⟩⟩ V2 h; exact h)
    · rw [if_pos (of_decide_eq_true hk)] at hP
      rw [hP]
      obtain ⟨k1, k2, k3⟩ := hd1.set (d' := ⟨m.t, m.h, [], ⟨0, 0, (m.t.getD i default).size, (m.t.getD i default).kind, (m.t.getD i default).links, [], []⟩⟩) hS1.sub 3 [.int .i64 0, .int .i64 0, .int .i64 (m.t.getD i default).size, .int .i64 (m.t.getD i default).kind, .int .i64 (m.t.getD i default).links, .slice none 0 0, .slice none 0 0] (by simp) (by
        rintro cs ⟨s, hs, y, x, n, rfl, h1, h2, h3, h4, h5⟩
        exact ⟨s, hs, y, ⟨none, 0, 0⟩, ⟨none, 0, 0⟩, rfl, h1, h2, h3, SlR.nil _ _ _, SlR.nil _ _ _⟩)
      exact ⟨_, rfl, k1, V01, hS1.trans k3, rfl, k2.ex⟩
    · have hk := of_decide_eq_false hk
      have hk2 : c.kind = 8 ∧ (m.t.getD i default).kind ≠ 2 := by
        by_cases h8 : c.kind = 8
        · rw [decide_eq_true h8] at hk2; exact ⟨h8, of_decide_eq_false (not_t hk2)⟩
        · rw [decide_eq_false h8] at hk2; cases hk2
      rw [if_neg hk, if_pos hk2] at hP
      rw [hP]
      exact ⟨V01, hS1, rfl, by decide⟩
    · have hk := of_decide_eq_false hk
      have hk2 : ¬ (c.kind = 8 ∧ (m.t.getD i default).kind ≠ 2) := by
        rintro ⟨h8, h9⟩
        rw [decide_eq_true h8, decide_eq_false h9] at hk2; cases hk2
      rw [if_neg hk, if_neg hk2] at hP
      refine joinP_cut (fun q V2 => ∃ V02, Mv (fun i => i = b) V0 V V02 V2 ∧ deeO b V02 V2 (.int .i64 q.1) (foundP m c)) (br_intro (fun hk3 => ?_) (fun hk3 => br_intro (fun hk4 => ?_) (fun hk4 => ?_))) (by rintro ⟨q, ⟨⟩⟩ V2 h; exact h)
      · rw [if_pos (of_decide_eq_true hk3)] at hP
        rw [hP]
        have hml : (m.t.getD i default).ents.length ≤ 1000 := by
          have := (mayN_light ((mayF (find_may hf)).at hi)).2
          exact this
        refine (CallV.stp (B := fun i => i = b) (K := fun r V' => ∃ x : Sl, r = .slice x.a x.n x.c ∧ SlR V' x ((m.t.getD i default).ents.map Ent.name)) hS1.sub ((names8_ok hN'.ents hml).mono fun r V' ⟨x, h1, h2, h3⟩ => ⟨⟨x, h1, h2⟩, h3⟩)).mono ?_
        rintro r V2 ⟨V02, ⟨x, rfl, hx⟩, hS2, hV2⟩
        have hd2 : DBox V02 V2 b p mb ⟨m.t, m.h, [], Ans.e 0⟩ := by
          obtain ⟨cs, e1, e2⟩ := hd1.ex
          exact ⟨hS2.apart _ hd1.no (by rw [e1]; simp), hd1.bp, hd1.bm, cs, hV2.see _ _ e1, e2.mono hS2.base⟩
        obtain ⟨k1, k2, k3⟩ := hd2.set (d' := ⟨m.t, m.h, [], ⟨0, 0, 0, 0, 0, [], (m.t.getD i default).ents.map Ent.name⟩⟩) hS2.sub 9 [.slice x.a x.n x.c] (by simp) (by
          rintro cs ⟨s, hs, y, z, n, rfl, h1, h2, h3, h4, h5⟩
          exact ⟨s, hs, y, z, x, rfl, h1, h2, h3, h4, hx⟩)
        refine ⟨x, rfl, _, rfl, ?_⟩
        rw [Addr.add_add]
        exact ⟨k1, V02, (hS1.trans hS2).trans k3, rfl, k2.ex⟩
      · rw [if_neg (of_decide_eq_false hk3), if_pos (of_decide_eq_true hk4)] at hP
        rw [hP]
        exact ⟨V01, hS1, rfl, by decide⟩
      · rw [if_neg (of_decide_eq_false hk3), if_neg (of_decide_eq_false hk4)] at hP
        refine ⟨_, rfl, hs, bx hm1.box 2 rfl, ?_⟩
        refine (CallV.stp (B := fun i => i = b) (K := fun r V' => ∃ W, outL W V' r (openH m.h i)) hS1.sub ((handOpen_ok hm1.hands).mono fun r V' h => ⟨⟨_, h⟩, ?_⟩)).mono ?_
        · cases ho : openH m.h i with
          | error e => rw [ho] at h; rw [h.2]; exact View.Le.refl _
          | ok o => rw [ho] at h; obtain ⟨x, _, _, h3⟩ := h; exact h3
        rintro r V2 ⟨V02, ⟨W, hx⟩, hS2, hV2⟩
        have hd2 : DBox V02 V2 b p mb ⟨m.t, m.h, [], Ans.e 0⟩ := by
          obtain ⟨cs, e1, e2⟩ := hd1.ex
          exact ⟨hS2.apart _ hd1.no (by rw [e1]; simp), hd1.bp, hd1.bm, cs, hV2.see _ _ e1, e2.mono hS2.base⟩
        cases ho : openH m.h i with
        | error e =>
          rw [ho] at hx hP
          obtain ⟨rfl, _⟩ := hx
          rw [hP]
          obtain ⟨k1, k2, k3⟩ := hd2.set (d' := ⟨m.t, [], [], Ans.e 0⟩) hS2.sub 1 [.slice none 0 0] (by simp) (by
            rintro cs ⟨s, hs, y, z, n, rfl, h1, h2, h3, h4, h5⟩
            exact ⟨s, ⟨none, 0, 0⟩, y, z, n, rfl, h1, SlR.nil _ _ _, h3, h4, h5⟩)
          obtain ⟨l1, l2, l3⟩ := k2.set (d' := ⟨m.t, [], [], Ans.e 0⟩) k3.sub 4 [.int .i64 0] (by simp) (by
            rintro cs ⟨s, hs, y, z, n, rfl, h1, h2, h3, h4, h5⟩
            exact ⟨s, hs, y, z, n, rfl, h1, h2, h3, h4, h5⟩)
          refine ⟨⟨none, 0, 0⟩, _, _, rfl, _, rfl, k1, _, rfl, ?_⟩
          rw [Addr.add_add]
          exact ⟨l1, V02, ((hS1.trans hS2).trans k3).trans l3, rfl, open_err ho⟩
        | ok o =>
          obtain ⟨h', k⟩ := o
          rw [ho] at hx hP
          obtain ⟨x, rfl, hx, _⟩ := hx
          rw [hP]
          obtain ⟨k1, k2, k3⟩ := hd2.set (d' := ⟨m.t, h', [], Ans.e 0⟩) hS2.sub 1 [.slice x.a x.n x.c] (by simp) (by
            rintro cs ⟨s, hs, y, z, n, rfl, h1, h2, h3, h4, h5⟩
            exact ⟨s, x, y, z, n, rfl, h1, hx, h3, h4, h5⟩)
          obtain ⟨l1, l2, l3⟩ := k2.set (d' := ⟨m.t, h', [], ⟨0, k, 0, 0, 0, [], []⟩⟩) k3.sub 4 [.int .i64 k] (by simp) (by
            rintro cs ⟨s, hs, y, z, n, rfl, h1, h2, h3, h4, h5⟩
            exact ⟨s, hs, y, z, n, rfl, h1, h2, h3, h4, h5⟩)
          refine ⟨x, _, _, rfl, _, rfl, k1, _, rfl, ?_⟩
          rw [Addr.add_add]
          exact ⟨l1, V02, ((hS1.trans hS2).trans k3).trans l3, rfl, l2.ex⟩
end
end Go.Proofs.YtoogangnldppaaaGreatDoor

/- Contracts of the model's inner functions: closes, held. -/
namespace Go.Proofs.YtoogangnldppaaaGreatDoor
open Go
theorem close_err {h : List Int} {i e : Int} (ho : closeH h i = .error e) : e ≠ 0 := by
  unfold closeH ofH at ho
  split at ho
  · rename_i e' he
    cases ho
    split at he
    · cases he; decide
    · split at he
      · cases he; decide
      · cases he
  · cases ho
theorem of_err {h : List Int} {i e : Int} (he : ofH h i = .error e) : e ≠ 0 := by
  unfold ofH at he
  split at he
  · cases he; decide
  · split at he
    · cases he; decide
    · cases he
theorem close_facts {h l : List Int} {i n : Int} (ho : closeH h i = .ok (l, n)) : offH h = false ∧ 0 ≤ n ∧ n < 12 ∧ offH l = false ∧ l = h.set i.toNat (-1) ∧ 0 ≤ i ∧ i < 4 ∧ n = h.getD i.toNat 0 := by
  unfold closeH at ho
  split at ho
  · cases ho
  · rename_i n' hn
    cases ho
    obtain ⟨h1, h2, h3, h4, h5, h6⟩ := ofH_ok hn
    refine ⟨h1, h5, h6, ?_, rfl, h2, h3, h4⟩
    unfold offH
    rw [Bool.or_eq_false_iff]
    constructor
    · rw [List.length_set, offH_len h1]; rfl
    · rw [List.any_eq_false]
      intro x hx
      rcases List.mem_or_eq_of_mem_set hx with h | h
      · have := offH_mem h1 h
        simp; omega
      · subst h; decide
theorem heldH_len {h : List Int} (ho : offH h = false) : (heldH h).length = 12 := by
  unfold heldH; rw [if_neg (by rw [ho]; decide)]; simp
theorem SlR.boolN {V : View} {s : Sl} {l : List Bool} (h : SlR V s l) {i : Nat} (hi : i < l.length) :
    ∃ ad, s.a = some ad ∧ V.cell? (ad.add (i * 1)) = some (.bool (l.getD i false)) := by
  obtain ⟨ad, hx, ha, hc⟩ := h.bool (x := (i : Int)) (by omega) (by have := h.n; omega)
  have e : l.getD i false = l[i] := by rw [List.getD_eq_getElem?_getD, List.getElem?_eq_getElem hi]; rfl
  rw [e]
  exact ⟨ad, ha, hc⟩
section
variable {V0 V : View} {p mb b : Nat} {m : PMod} {c : Cal} {y : Sl} {s hs : Sl} {es : Array MapEntry} {cl : Nat}
theorem DBox.grow {V0' V' : View} {d : Dee} (h : DBox V0 V b p mb d) (k : Mv (fun i => i = b) V0 V V0' V') (hV : V.Le V') : DBox V0' V' b p mb d := by
  obtain ⟨cs, e1, e2⟩ := h.ex
  exact ⟨k.apart _ h.no (by rw [e1]; simp), h.bp, h.bm, cs, hV.see _ _ e1, e2.mono k.base⟩
theorem modCloses_ok (hm : ModC V0 V p mb m s hs es cl) (hle : V0.Le V) (hM : mayT m.t = true) (hd : DBox V0 V b p mb ⟨m.t, m.h, [], Ans.e 0⟩) : CallV Tryz.prog 65 ⟨[.pointer (some ⟨p, 0, none⟩), calV c y, .pointer (some ⟨b, 0, none⟩)]⟩ V fun r V' => ∃ V0', Mv (fun i => i = b) V0 V V0' V' ∧ deeO b V0' V' r (closesP m c) := by
  refine f65_x ?_
  unfold f65_n
  have hp1 : ¬ p = b := fun e => hd.bp e.symm
  have hp2 : ¬ mb = b := fun e => hd.bm e.symm
  refine fun _ => ⟨trivial, V, View.Le.refl _, _, rfl, hs, bx hm.box 2 rfl, ?_⟩
  refine (CallV.stp (B := fun i => i = b) (K := fun r V' => ∃ W, outL W V' r (closeH m.h c.hand)) hle ((handClose_ok hm.hands).mono fun r V' h => ⟨⟨_, h⟩, ?_⟩)).mono ?_
  · cases ho : closeH m.h c.hand with
    | error e => rw [ho] at h; rw [h.2]; exact View.Le.refl _
    | ok o => rw [ho] at h; obtain ⟨x, _, _, h3⟩ := h; exact h3
  rintro r V1 ⟨V01, ⟨W, hx⟩, hS1, hV1⟩
  have hm1 := hm.stp hS1 hp1 hp2
  have hd1 := hd.grow hS1 hV1
  have hP : closesP m c = match closeH m.h c.hand with
    | .error e => .error e
    | .ok (h, i) => if (m.t.getD i.toNat default).links = 0 ∧ heldB (heldH h) i.toNat = false then match dropT m.t i with
        | .error e => .error e
        | .ok t => .ok ⟨t, h, [], Ans.e 0⟩
      else .ok ⟨m.t, h, [], Ans.e 0⟩ := rfl
  cases ho : closeH m.h c.hand with
  | error e =>
    rw [ho] at hx hP
    obtain ⟨rfl, _⟩ := hx
    rw [hP]
    exact ⟨⟨none, 0, 0⟩, _, _, rfl, br_intro (fun _ => ⟨V01, hS1, rfl, close_err ho⟩) (fun h => absurd (of_decide_eq_true (not_f h)) (close_err ho))⟩
  | ok o =>
    obtain ⟨l, n⟩ := o
    rw [ho] at hx hP
    obtain ⟨x, rfl, hx, _⟩ := hx
    dsimp only at hP
    obtain ⟨_, hn0, hn12, hol, _⟩ := close_facts ho
    have h12 := (mayF hM).len
    obtain ⟨k1, k2, k3⟩ := hd1.set (d' := ⟨m.t, l, [], Ans.e 0⟩) hS1.sub 1 [.slice x.a x.n x.c] (by simp) (by
      rintro cs ⟨s, hs, y, z, n, rfl, h1, h2, h3, h4, h5⟩
      exact ⟨s, x, y, z, n, rfl, h1, hx, h3, h4, h5⟩)
    refine ⟨x, _, _, rfl, br_intro (fun h => absurd h (by decide)) (fun _ => ⟨_, rfl, k1, ?_⟩)⟩
    generalize V1.sets ((⟨b, 0, none⟩ : Addr).add 1) [.slice x.a x.n x.c] = V2 at k2 k3
    have hm2 := hm1.stp k3 hp1 hp2
    have hS2 := hS1.trans k3
    have hsn := hm2.tre.n
    obtain ⟨ad, sq, en, ha, hcc, hN⟩ := (hm2.tre.mono k3.sub).nodN (i := n.toNat) (by omega)
    refine joinP_cut (fun q V3 => q.1 = decide ((m.t.getD n.toNat default).links = 0 ∧ heldB (heldH l) n.toNat = false) ∧ V2.Le V3) ⟨_, rfl, s, by rw [Addr.add_add]; exact bx hm2.box 1 rfl, by omega, by omega, ad, ha, _, cellsAt_nth hcc 1 rfl, br_intro (fun hb => ?_) (fun hb => ⟨?_, View.Le.refl _⟩)⟩ ?_
    · refine (handHeld_ok (hx.mono k3.sub)).mono ?_
      rintro r V3 ⟨z, rfl, hz, hV3⟩
      have hzn := hz.n
      rw [heldH_len hol] at hzn
      obtain ⟨ad2, ha2, hc2⟩ := hz.boolN (i := n.toNat) (by rw [heldH_len hol]; omega)
      refine ⟨z, rfl, by omega, by omega, ad2, ha2, _, hc2, ?_, hV3⟩
      have hb := of_decide_eq_true hb
      show (!((heldH l).getD n.toNat false)) = decide ((m.t.getD n.toNat default).links = 0 ∧ heldB (heldH l) n.toNat = false)
      unfold heldB
      rcases Bool.eq_false_or_eq_true ((heldH l).getD n.toNat false) with h | h
      · rw [h, decide_eq_false (fun h => by cases h.2)]; rfl
      · rw [h, decide_eq_true ⟨hb, rfl⟩]; rfl
    · have hb := of_decide_eq_false hb
      exact (decide_eq_false (fun h => hb h.1)).symm
    rintro ⟨q, ⟨⟩⟩ V3 ⟨h1, hV3⟩
    have h1 : q = decide ((m.t.getD n.toNat default).links = 0 ∧ heldB (heldH l) n.toNat = false) := h1
    have hV3 : V2.Le V3 := hV3
    subst h1
    dsimp only [unc]
    have hS3 : Mv (fun i => i = b) V01 V2 V01 V3 := Mv.grow k3.sub hV3
    have hm3 := hm2.stp hS3 hp1 hp2
    have hd3 := k2.grow hS3 hV3
    refine joinP_cut (fun q V4 => ∃ V04, Mv (fun i => i = b) V0 V V04 V4 ∧ deeO b V04 V4 (.int .i64 q.1) (closesP m c)) (br_intro (fun hb => ?_) (fun hb => ?_)) (by rintro ⟨q, ⟨⟩⟩ V4 h; exact h)
    · rw [if_pos (of_decide_eq_true hb)] at hP
      refine ⟨_, rfl, s, bx1 hm3.box 1 rfl, (CallV.stp (B := fun i => i = b) (K := fun r V' => outT V01 V' r (dropT m.t n)) hS3.sub ((drop_ok hm3.tre).mono fun r V' h => ⟨h, h.2⟩)).mono ?_⟩
      rintro r V4 ⟨V04, ⟨⟨z, e, rfl, hz⟩, _⟩, hS4, hV4⟩
      have hd4 := hd3.grow hS4 hV4
      cases hdr : dropT m.t n with
      | error e' =>
        rw [hdr] at hz hP
        obtain ⟨rfl, he, hz⟩ := hz
        rw [hP]
        obtain ⟨l1, l2, l3⟩ := hd4.set (d' := ⟨[], l, [], Ans.e 0⟩) hS4.sub 0 [.slice z.a z.n z.c] (by simp) (by
          rintro cs ⟨s, hs, y, w, n, rfl, h1, h2, h3, h4, h5⟩
          exact ⟨z, hs, y, w, n, rfl, hz, h2, h3, h4, h5⟩)
        exact ⟨z, _, rfl, _, rfl, l1, V04, ((hS2.trans hS3).trans hS4).trans l3, rfl, he⟩
      | ok u =>
        rw [hdr] at hz hP
        obtain ⟨rfl, hz⟩ := hz
        rw [hP]
        obtain ⟨l1, l2, l3⟩ := hd4.set (d' := ⟨u, l, [], Ans.e 0⟩) hS4.sub 0 [.slice z.a z.n z.c] (by simp) (by
          rintro cs ⟨s, hs, y, w, n, rfl, h1, h2, h3, h4, h5⟩
          exact ⟨z, hs, y, w, n, rfl, hz, h2, h3, h4, h5⟩)
        exact ⟨z, _, rfl, _, rfl, l1, V04, ((hS2.trans hS3).trans hS4).trans l3, rfl, l2.ex⟩
    · rw [if_neg (of_decide_eq_false hb)] at hP
      rw [hP]
      exact ⟨V01, hS2.trans hS3, rfl, hd3.ex⟩
theorem outW_stp {B : Nat → Prop} {f : FuncId} {args : Array Value} {o : Except Int (Tre × List Tod)} (hle : V0.Le V) (h : CallV Tryz.prog f args V0 fun r V' => outW V0 V' r o) :
    CallV Tryz.prog f args V fun r V' => ∃ V0', (∃ W, outW W V0' r o) ∧ Mv B V0 V V0' V' ∧ V.Le V' := by
  refine CallV.stp hle (h.mono fun r V' h => ⟨⟨_, h⟩, ?_⟩)
  cases o with
  | error e => exact h.2.2
  | ok o => obtain ⟨u, l⟩ := o; obtain ⟨x, y, _, _, _, h4⟩ := h; exact h4
end
end Go.Proofs.YtoogangnldppaaaGreatDoor

/- Contracts of the model's inner functions: held. -/
namespace Go.Proofs.YtoogangnldppaaaGreatDoor
open Go
theorem Mv.ofHide {V0 V V' : View} {b : Nat} (h : V0.Le V) (hn : V0.see b = none) (hH : (V.hide b).Le V') (hb : V.see b ≠ none → V'.see b ≠ none) : Mv (fun i => i = b) V0 V V0 V' := by
  refine ⟨h, View.Le.refl _, ?_, fun _ h _ => h, fun i o hi ho => ?_, fun i hi => ?_, hH.size⟩
  · refine ⟨Nat.le_trans h.size hH.size, fun i o ho => ?_, hH.out.trans h.out⟩
    have hne : i ≠ b := fun e => by rw [e, hn] at ho; cases ho
    exact hH.see i o (by rw [hide_see, if_neg hne]; exact h.see i o ho)
  · exact hH.see i o (by rw [hide_see, if_neg hi]; exact ho)
  · by_cases e : i = b
    · subst e; exact hb hi
    · cases hs : V.see i with
      | none => exact absurd hs hi
      | some o => rw [hH.see i o (by rw [hide_see, if_neg e]; exact hs)]; simp
/-- A row of one's own is to last. -/
theorem Buf.share {α : Type} [Rep α] {B : Nat → Prop} {V0 V V0' V' : View} {x : Sl} {e : TypeId} {cs : List Value} {l : List α} (h : Buf V' x e (Rep.sz α) cs) (k : Mv B V0 V V0' V') (hr : repL V0' cs l) (hv : ∀ i, V.see i ≠ none → (V'.minus x).see i ≠ none) (h0 : V0'.Le (V'.minus x)) :
    ∃ V0'', Mv B V0 V V0'' V' ∧ V0'.Le V0'' ∧ SlR V0'' x l ∧ ∀ i, V'.see i ≠ none → (V'.minus x).see i ≠ none → V0'.see i = none → V0''.see i = none := by
  rcases h.own with ⟨ha, hc⟩ | ⟨r, all, ha, hs, hl, ht⟩
  · refine ⟨V0', k, View.Le.refl _, ?_, fun _ _ _ h => h⟩
    exact Buf.slR (V := V0') (W := V0') (e := e) ⟨h.len, h.le, h.lim, .inl ⟨ha, hc⟩⟩ hr (View.Le.refl _)
  · have hmn : (V'.minus x).see r = none := minus_none (V := V') ha
    have hn : V0'.see r = none := see_none_le h0 hmn
    have hr0 : V.see r = none := by
      cases hv0 : V.see r with
      | none => rfl
      | some o => exact absurd hmn (hv r (by rw [hv0]; simp))
    refine ⟨V0'.put r (.cells ⟨all⟩ e (0, 0)), k.share hr0 hs hn, View.put_le hn, ?_, fun i hi h1 h2 => ?_⟩
    · exact Buf.slR (V := V0'.put r (.cells ⟨all⟩ e (0, 0))) (W := V0'.put r (.cells ⟨all⟩ e (0, 0))) (e := e) ⟨h.len, h.le, h.lim, .inr ⟨r, all, ha, View.see_put_same _ _ _, hl, ht⟩⟩ (hr.mono (View.put_le hn)) (View.Le.refl _)
    · have hne : i ≠ r := fun e => by rw [e] at h1; exact h1 hmn
      rw [View.see_put_ne _ _ hne]; exact h2
theorem readPg_snoc {pg : Int → List UInt8} {l : List Pce} {j : Nat} (h : j < l.length) : readPg pg (l.take (j + 1)) = readPg pg (l.take j) ++ ((pg (l.getD j default).page).take ((l.getD j default).from_ + (l.getD j default).len).toNat).drop (l.getD j default).from_.toNat := by
  unfold readPg
  rw [take_snoc h, List.flatMap_append, List.flatMap_singleton]
theorem readPg_len (pg : Int → List UInt8) (hpg : ∀ q, (pg q).length = 16) : ∀ l : List Pce, (readPg pg l).length ≤ 16 * l.length
  | [] => by simp [readPg]
  | p :: l => by
    have := readPg_len pg hpg l
    have e : readPg pg (p :: l) = ((pg p.page).take (p.from_ + p.len).toNat).drop p.from_.toNat ++ readPg pg l := rfl
    rw [e, List.length_append, List.length_cons, List.length_drop, List.length_take, hpg]
    omega
theorem minus_put_eq {V : View} {x : Sl} {b : Nat} {o o' : Obj} (h : (V.minus x).see b = some o) : (V.put b o').minus x = (V.minus x).put b o' := by
  unfold View.minus at h ⊢
  cases hx : x.a with
  | none => rfl
  | some a =>
    rw [hx] at h
    simp only [hide_see] at h
    split at h
    · cases h
    · rename_i hne
      show (V.put b o').hide a.block = (V.hide a.block).put b o'
      unfold View.hide View.put
      congr 1
      funext j
      by_cases h1 : j = b
      · subst h1; simp [hne]
      · simp [h1]
theorem Buf.put_ne {V : View} {x : Sl} {e : TypeId} {sz : Nat} {cs : List Value} {b : Nat} {o o' : Obj} (h : Buf V x e sz cs) (hb : (V.minus x).see b = some o) : Buf (V.put b o') x e sz cs := by
  refine ⟨h.len, h.le, h.lim, h.own.imp id ?_⟩
  rintro ⟨r, all, h1, h2, h3⟩
  refine ⟨r, all, h1, ?_, h3⟩
  have hne : r ≠ b := by
    rintro rfl
    have := minus_none (V := V) h1
    rw [show ({ block := r, off := 0, spot := none } : Addr).block = r from rfl] at this
    rw [this] at hb; cases hb
  rw [View.see_put_ne _ _ hne]; exact h2
theorem hide_le_putL {V W : View} {b : Nat} {o : Obj} (h : (V.hide b).Le W) : (V.hide b).Le (W.put b o) := by
  refine ⟨Nat.le_trans h.size (Nat.le_max_left _ _), fun i o' hi => ?_, h.out⟩
  have hne : i ≠ b := fun e => by rw [e, hide_see, if_pos rfl] at hi; cases hi
  rw [View.see_put_ne _ _ hne]; exact h.see _ _ hi
section
variable {V0 V : View} {p mb b : Nat} {m : PMod} {c : Cal} {y : Sl} {s hs : Sl} {es : Array MapEntry} {cl : Nat}
theorem read_err {t : Tre} {i a n e : Int} (h : readI t i a n = .error e) : e ≠ 0 := by
  unfold readI at h
  split at h
  · cases h; decide
  · cases h
theorem modHeld_ok (hm : ModC V0 V p mb m s hs es cl) (hle : V0.Le V) (hM : mayT m.t = true) (hdat : inI .i64 m.data) (hP16 : ∀ q b, m.P q = some b → b.length = 16) (hc : CalR V0 y c) (hn0 : V0.see b = none) (hbp : b ≠ p) (hbm : b ≠ mb)
    (hb0 : V.see b = some (.cells ⟨[.slice s.a s.n s.c, .slice hs.a hs.n hs.c, .slice none 0 0, .int .i64 0, .int .i64 0, .int .i64 0, .int .i64 0, .int .i64 0, .slice none 0 0, .slice none 0 0]⟩ 74 (0, 0))) :
    CallV Tryz.prog 66 ⟨[.pointer (some ⟨p, 0, none⟩), calV c y, .pointer (some ⟨b, 0, none⟩)]⟩ V fun r V' => ∃ V0', Mv (fun i => i = b) V0 V V0' V' ∧ deeO b V0' V' r (heldP m c) := by
  refine f66_x ?_
  unfold f66_n
  have hd : DBox V0 V b p mb ⟨m.t, m.h, [], Ans.e 0⟩ := ⟨hn0, hbp, hbm, _, hb0, ⟨s, hs, ⟨none, 0, 0⟩, ⟨none, 0, 0⟩, ⟨none, 0, 0⟩, rfl, hm.tre, hm.hands, SlR.nil _ _ _, SlR.nil _ _ _, SlR.nil _ _ _⟩⟩
  have hp1 : ¬ p = b := fun e => hd.bp e.symm
  have hp2 : ¬ mb = b := fun e => hd.bm e.symm
  refine fun _ => ⟨trivial, V, View.Le.refl _, _, rfl, hs, bx hm.box 2 rfl, (handOf_ok (hm.hands.mono hle)).mono ?_⟩
  rintro r V1 ⟨rfl, rfl⟩
  have hP : heldP m c = match ofH m.h c.hand with
    | .error e => .error e
    | .ok i =>
      if c.kind = 12 then match writeT m.t m.data i c.at_ c.data with
        | .error e => .error e
        | .ok (u, l) => .ok ⟨u, m.h, l, ⟨0, 0, c.data.length, 0, 0, [], []⟩⟩
      else if c.kind = 13 then match truncT m.t i c.at_ with
        | .error e => .error e
        | .ok (u, l) => .ok ⟨u, m.h, l, Ans.e 0⟩
      else match readI m.t i c.at_ c.len with
        | .error e => .error e
        | .ok l => .ok ⟨m.t, m.h, [], ⟨0, 0, (readPg (fun p => pgP m.P ((m.t.getD i.toNat default).seqs.getD p.toNat 0)) l).length, 0, 0, readPg (fun p => pgP m.P ((m.t.getD i.toNat default).seqs.getD p.toNat 0)) l, []⟩⟩ := rfl
  cases ho : ofH m.h c.hand with
  | error e =>
    rw [ho] at hP
    rw [hP]
    exact ⟨_, _, rfl, br_intro (fun _ => ⟨V0, Mv.refl hle, rfl, of_err ho⟩) (fun h => absurd (of_decide_eq_true (not_f h)) (of_err ho))⟩
  | ok i =>
    rw [ho] at hP
    dsimp only at hP
    obtain ⟨_, _, _, _, hi0, hi12⟩ := ofH_ok ho
    have h12 := (mayF hM).len
    have hyn := hc.data.n
    refine ⟨_, _, rfl, br_intro (fun h => absurd h (by decide)) (fun _ => ?_)⟩
    refine joinP_cut (fun q V4 => ∃ V04, Mv (fun i => i = b) V0 V1 V04 V4 ∧ deeO b V04 V4 (.int .i64 q.1) (heldP m c)) (br_intro (fun hk => ?_) (fun hk => ?_)) (by rintro ⟨q, ⟨⟩⟩ V4 h; exact h)
    · rw [if_pos (of_decide_eq_true hk)] at hP
      have hyE : (y.n : Int) = (c.data.length : Int) := by omega
      obtain ⟨k1, k2, k3⟩ := hd.set (d' := ⟨m.t, m.h, [], ⟨0, 0, c.data.length, 0, 0, [], []⟩⟩) hle 5 [.int .i64 c.data.length] (by simp) (by
        rintro cs ⟨s, hs, y', z, n, rfl, h1, h2, h3, h4, h5⟩
        exact ⟨s, hs, y', z, n, rfl, h1, h2, h3, h4, h5⟩)
      rw [hyE]
      refine ⟨_, rfl, ?_⟩
      rw [Addr.add_add]
      refine ⟨k1, trivial, _, View.Le.refl _, ?_⟩
      generalize V1.sets ((⟨b, 0, none⟩ : Addr).add (3 + 2)) [.int .i64 (c.data.length : Int)] = V2 at k2 k3
      have hm2 := hm.stp k3 hp1 hp2
      refine ⟨_, rfl, s, bx1 hm2.box 1 rfl, _, rfl, _, bx hm2.box 0 rfl, ?_⟩
      refine (outW_stp (B := fun i => i = b) k3.sub (fileWrite_ok hm.tre hc.data hdat)).mono ?_
      rintro r V3 ⟨V03, ⟨W, hx⟩, hS3, hV3⟩
      have hd3 := k2.grow hS3 hV3
      cases hw : writeT m.t m.data i c.at_ c.data with
      | error e =>
        rw [hw] at hx hP
        obtain ⟨rfl, he, _⟩ := hx
        dsimp only at hP
        rw [hP]
        obtain ⟨l1, l2, l3⟩ := hd3.set (d' := ⟨[], m.h, [], ⟨0, 0, c.data.length, 0, 0, [], []⟩⟩) hS3.sub 0 [.slice none 0 0] (by simp) (by
          rintro cs ⟨s, hs, y', z, n, rfl, h1, h2, h3, h4, h5⟩
          exact ⟨⟨none, 0, 0⟩, hs, y', z, n, rfl, SlR.nil _ _ _, h2, h3, h4, h5⟩)
        obtain ⟨n1, n2, n3⟩ := l2.set (d' := ⟨[], m.h, [], ⟨0, 0, c.data.length, 0, 0, [], []⟩⟩) l3.sub 2 [.slice none 0 0] (by simp) (by
          rintro cs ⟨s, hs, y', z, n, rfl, h1, h2, h3, h4, h5⟩
          exact ⟨s, hs, ⟨none, 0, 0⟩, z, n, rfl, h1, h2, SlR.nil _ _ _, h4, h5⟩)
        exact ⟨⟨none, 0, 0⟩, ⟨none, 0, 0⟩, _, rfl, _, rfl, l1, _, rfl, n1, V03, ((k3.trans hS3).trans l3).trans n3, rfl, he⟩
      | ok o =>
        obtain ⟨u, l⟩ := o
        rw [hw] at hx hP
        obtain ⟨x, w, rfl, hx, hw', _⟩ := hx
        dsimp only at hP
        rw [hP]
        obtain ⟨l1, l2, l3⟩ := hd3.set (d' := ⟨u, m.h, [], ⟨0, 0, c.data.length, 0, 0, [], []⟩⟩) hS3.sub 0 [.slice x.a x.n x.c] (by simp) (by
          rintro cs ⟨s, hs, y', z, n, rfl, h1, h2, h3, h4, h5⟩
          exact ⟨x, hs, y', z, n, rfl, hx, h2, h3, h4, h5⟩)
        obtain ⟨n1, n2, n3⟩ := l2.set (d' := ⟨u, m.h, l, ⟨0, 0, c.data.length, 0, 0, [], []⟩⟩) l3.sub 2 [.slice w.a w.n w.c] (by simp) (by
          rintro cs ⟨s, hs, y', z, n, rfl, h1, h2, h3, h4, h5⟩
          exact ⟨s, hs, w, z, n, rfl, h1, h2, hw', h4, h5⟩)
        exact ⟨x, w, _, rfl, _, rfl, l1, _, rfl, n1, V03, ((k3.trans hS3).trans l3).trans n3, rfl, n2.ex⟩
    · rw [if_neg (of_decide_eq_false hk)] at hP
      refine joinP_cut (fun q V4 => ∃ V04, Mv (fun i => i = b) V0 V1 V04 V4 ∧ deeO b V04 V4 (.int .i64 q.1) (heldP m c)) (br_intro (fun hk2 => ?_) (fun hk2 => ?_)) (by rintro ⟨q, ⟨⟩⟩ V4 h; exact h)
      · rw [if_pos (of_decide_eq_true hk2)] at hP
        refine ⟨trivial, V1, View.Le.refl _, _, rfl, s, bx1 hm.box 1 rfl, ?_⟩
        refine (outW_stp (B := fun i => i = b) hle (fileTrunc_ok hm.tre)).mono ?_
        rintro r V3 ⟨V03, ⟨W, hx⟩, hS3, hV3⟩
        have hd3 := hd.grow hS3 hV3
        cases hw : truncT m.t i c.at_ with
        | error e =>
          rw [hw] at hx hP
          obtain ⟨rfl, he, _⟩ := hx
          dsimp only at hP
          rw [hP]
          obtain ⟨l1, l2, l3⟩ := hd3.set (d' := ⟨[], m.h, [], Ans.e 0⟩) hS3.sub 0 [.slice none 0 0] (by simp) (by
            rintro cs ⟨s, hs, y', z, n, rfl, h1, h2, h3, h4, h5⟩
            exact ⟨⟨none, 0, 0⟩, hs, y', z, n, rfl, SlR.nil _ _ _, h2, h3, h4, h5⟩)
          obtain ⟨n1, n2, n3⟩ := l2.set (d' := ⟨[], m.h, [], Ans.e 0⟩) l3.sub 2 [.slice none 0 0] (by simp) (by
            rintro cs ⟨s, hs, y', z, n, rfl, h1, h2, h3, h4, h5⟩
            exact ⟨s, hs, ⟨none, 0, 0⟩, z, n, rfl, h1, h2, SlR.nil _ _ _, h4, h5⟩)
          exact ⟨⟨none, 0, 0⟩, ⟨none, 0, 0⟩, _, rfl, _, rfl, l1, _, rfl, n1, V03, (hS3.trans l3).trans n3, rfl, he⟩
        | ok o =>
          obtain ⟨u, l⟩ := o
          rw [hw] at hx hP
          obtain ⟨x, w, rfl, hx, hw', _⟩ := hx
          dsimp only at hP
          rw [hP]
          obtain ⟨l1, l2, l3⟩ := hd3.set (d' := ⟨u, m.h, [], Ans.e 0⟩) hS3.sub 0 [.slice x.a x.n x.c] (by simp) (by
            rintro cs ⟨s, hs, y', z, n, rfl, h1, h2, h3, h4, h5⟩
            exact ⟨x, hs, y', z, n, rfl, hx, h2, h3, h4, h5⟩)
          obtain ⟨n1, n2, n3⟩ := l2.set (d' := ⟨u, m.h, l, Ans.e 0⟩) l3.sub 2 [.slice w.a w.n w.c] (by simp) (by
            rintro cs ⟨s, hs, y', z, n, rfl, h1, h2, h3, h4, h5⟩
            exact ⟨s, hs, w, z, n, rfl, h1, h2, hw', h4, h5⟩)
          exact ⟨x, w, _, rfl, _, rfl, l1, _, rfl, n1, V03, (hS3.trans l3).trans n3, rfl, n2.ex⟩
      · rw [if_neg (of_decide_eq_false hk2)] at hP
        refine ⟨trivial, V1, View.Le.refl _, _, rfl, s, bx1 hm.box 1 rfl, ?_⟩
        refine (CallV.stp (B := fun i => i = b) (K := fun r V' => ∃ W, outR W V' r (readI m.t i c.at_ c.len)) hle ((fileRead_ok hm.tre).mono fun r V' h => ⟨⟨_, h⟩, ?_⟩)).mono ?_
        · cases hr : readI m.t i c.at_ c.len with
          | error e => rw [hr] at h; exact h.2
          | ok l => rw [hr] at h; obtain ⟨x, _, _, h3⟩ := h; exact h3
        rintro r V2 ⟨V02, ⟨W, hx⟩, hS2, hV2⟩
        have hm2 := hm.stp hS2 hp1 hp2
        have hb2 := hV2.see _ _ hb0
        have hn2 : V02.see b = none := hS2.apart _ hn0 (by rw [hb0]; simp)
        obtain ⟨x, l, e, rfl, hx, hcase⟩ : ∃ (x : Sl) (l : List Pce) (e : Int), r = .tuple ⟨[.slice x.a x.n x.c, .int .i64 e]⟩ ∧ SlR V02 x l ∧ ((e = 0 ∧ readI m.t i c.at_ c.len = .ok l) ∨ (readI m.t i c.at_ c.len = .error e ∧ e ≠ 0 ∧ l = [])) := by
          cases hr : readI m.t i c.at_ c.len with
          | error e =>
            rw [hr] at hx
            exact ⟨⟨none, 0, 0⟩, [], e, hx.1, SlR.nil _ _ _, .inr ⟨rfl, read_err hr, rfl⟩⟩
          | ok l =>
            rw [hr] at hx
            obtain ⟨x, h1, h2, _⟩ := hx
            exact ⟨x, l, 0, h1, h2, .inl ⟨rfl, rfl⟩⟩
        have hl80 : l.length ≤ 80 ∧ (l ≠ [] → (m.t.getD i.toNat default).seqs.length = 5) ∧ ∀ q ∈ l, 0 ≤ q.page ∧ q.page < 5 ∧ 0 ≤ q.from_ ∧ 0 < q.len ∧ q.from_ + q.len ≤ 16 := by
          rcases hcase with ⟨_, h⟩ | ⟨_, _, rfl⟩
          · unfold readI at h
            split at h
            · cases h
            · rename_i hq
              cases h
              have hq1 : fileQ m.t i = true := by
                cases hh : fileQ m.t i with
                | true => rfl
                | false => exact absurd (.inl hh) hq
              obtain ⟨_, _, _, hk⟩ := fileQ_iff hq1
              exact ⟨pieces_len _ _, fun _ => (file_facts ((mayF hM).at (show i.toNat < 12 by omega)) hk).2.2.2.2.1, fun q hq => pieces_mem hq⟩
          · exact ⟨by simp, fun h => absurd rfl h, fun q hq => by cases hq⟩
        obtain ⟨hl80, hl5, hlq⟩ := hl80
        let pg : Int → List UInt8 := fun q => pgP m.P ((m.t.getD i.toNat default).seqs.getD q.toNat 0)
        have hpg : ∀ q, (pg q).length = 16 := fun q => pgP_len hP16 _
        have hxn := hx.n
        have hH0 : V02.Le (V2.hide b) := ⟨hS2.sub.size, fun i o ho => by
          have hne : i ≠ b := fun e => by rw [e, hn2] at ho; cases ho
          rw [hide_see, if_neg hne]; exact hS2.sub.see i o ho, hS2.sub.out⟩
        have hcs : ∀ z : Sl, ∀ n : Int, putL [.slice s.a s.n s.c, .slice hs.a hs.n hs.c, .slice none 0 0, .int .i64 0, .int .i64 0, .int .i64 0, .int .i64 0, .int .i64 0, .slice none 0 0, .slice none 0 0] 8 [.slice z.a z.n z.c] = [.slice s.a s.n s.c, .slice hs.a hs.n hs.c, .slice none 0 0, .int .i64 0, .int .i64 0, .int .i64 0, .int .i64 0, .int .i64 0, .slice z.a z.n z.c, .slice none 0 0] := fun _ _ => rfl
        refine ⟨x, _, rfl, ?_⟩
        refine loop1 (k := .int .i64) (fun (j : Int) V3 => ∃ (q : Nat) (w : Sl), j = q ∧ q ≤ l.length ∧ Buf V3 w 5 1 (u8s (readPg pg (l.take q))) ∧ (V2.hide b).Le (V3.minus w) ∧
          (V3.minus w).see b = some (.cells ⟨[.slice s.a s.n s.c, .slice hs.a hs.n hs.c, .slice none 0 0, .int .i64 0, .int .i64 0, .int .i64 0, .int .i64 0, .int .i64 0, .slice w.a w.n w.c, .slice none 0 0]⟩ 74 (0, 0))) (fun (j : Int) _ => l.length - j.toNat)
          ⟨0, ⟨none, 0, 0⟩, rfl, by omega, Buf.nil _ _ _, View.hide_le _ _, hb2⟩ ?_
        rintro (j : Int) V3 ⟨q, w, rfl, hq, hB, hH, hb3⟩
        have hV03 : V02.Le (V3.minus w) := hH0.trans hH
        refine br_intro (fun hlt => ?_) (fun hge => ?_)
        · have hlt : q < l.length := by have := of_decide_eq_true hlt; omega
          have hqm : l.getD q default ∈ l := by rw [getD_at hlt]; exact List.getElem_mem _
          obtain ⟨q1, q2, q3, q4, q5⟩ := hlq _ hqm
          have hs5 := hl5 (by rintro rfl; simp at hlt)
          obtain ⟨ad, ha, hcc⟩ := (hx.mono (hV03.trans (View.minus_le _ _))).pceN hlt
          have hm3 : ModC V02 (V3.minus w) p mb m s hs es cl := ⟨hH.see _ _ (by rw [hide_see, if_neg hp1]; exact hm2.box), hH.see _ _ (by rw [hide_see, if_neg hp2]; exact hm2.map), hm2.tre, hm2.hands, hm2.pages⟩
          have hsn := hm2.tre.n
          obtain ⟨ad2, sq, en, ha2, hc2, hN⟩ := (hm2.tre.mono hV03).nodN (i := i.toNat) (by omega)
          have hsqn := hN.seqs.n
          obtain ⟨ad3, ha3, hc3, _⟩ := hN.seqs.intN (i := (l.getD q default).page.toNat) (by omega)
          refine ⟨by omega, by omega, ad, ha, _, _, _, hcc, fun _ => ⟨trivial, V3.minus w, View.minus_le _ _, _, rfl, w, by rw [Addr.add_add]; exact bx hb3 8 rfl, _, rfl, s, by rw [Addr.add_add]; exact bx hm3.box 1 rfl, by omega, by omega, ad2, ha2, sq, cellsAt_nth hc2 3 rfl, by omega, by omega, ad3, ha3, _, hc3, inI64 (by omega) (by omega), ?_⟩⟩
          refine (CallV.besideG (K := fun r U' => ∃ z : Sl, r = .slice z.a z.n z.c ∧ SlR U' z (pgP m.P ((m.t.getD i.toNat default).seqs.getD (l.getD q default).page.toNat 0))) hB ((modPage_ok hm3 hV03 _).mono fun r U' ⟨z, h1, h2, h3⟩ => ⟨⟨z, h1, h2⟩, h3⟩)).mono ?_
          rintro r V4 ⟨U, ⟨z, rfl, hz⟩, hU1, hU2, hV34⟩
          have hzn := hz.n; have hzc := hz.c
          have hz16 : (pgP m.P ((m.t.getD i.toNat default).seqs.getD (l.getD q default).page.toNat 0)).length = 16 := hpg _
          have hdl := readPg_len pg hpg (l.take q)
          rw [List.length_take] at hdl
          refine ⟨z, rfl, (View.minus_le _ _).trans hV34, by omega, by omega, by omega, ?_⟩
          have hsub := (hz.sub (i := (l.getD q default).from_.toNat) (j := ((l.getD q default).from_ + (l.getD q default).len).toNat) (by omega) (by omega)).mono hU2
          refine appRow (α := UInt8) (V0 := V4.minus w) (m := ((pgP m.P ((m.t.getD i.toNat default).seqs.getD (l.getD q default).page.toNat 0)).take ((l.getD q default).from_ + (l.getD q default).len).toNat).drop (l.getD q default).from_.toNat) rfl (hB.mono hV34) (u8s_rep _) hsub (View.Le.refl _) (by simp only [List.length_drop, List.length_take]; omega) (by simp only [List.length_drop, List.length_take]; omega) ?_
          intro w' V5 cs' g1 g2 g3
          have e5 := repL_u8 g2
          subst e5
          have hb5 := g3.see _ _ (hU2.see _ _ (hU1.see _ _ hb3))
          have hH5 := hH.trans (hU1.trans (hU2.trans g3))
          have hb5' := (View.minus_le _ _).see _ _ hb5
          refine ⟨_, rfl, ?_⟩
          rw [Addr.add_add]
          refine ⟨bxc hb5' 8 1 (by simp), inI64 (by omega) (by omega), ⟨q + 1, w', by omega, by omega, ?_, ?_, ?_⟩, by omega⟩
          · rw [bxe hb5', readPg_snoc hlt]
            exact g1.put_ne hb5
          · rw [bxe hb5', minus_put_eq hb5]
            exact hide_le_putL hH5
          · rw [bxe hb5', minus_put_eq hb5, View.see_put_same]; rfl
        · have hge : q = l.length := by have := of_decide_eq_false hge; omega
          subst hge
          rw [List.take_length] at hB
          have hb3' := (View.minus_le _ _).see _ _ hb3
          have hwn := hB.n_eq (α := UInt8) (W := V02) (u8s_rep _)
          refine ⟨_, rfl, w, by rw [Addr.add_add]; exact bx hb3' 8 rfl, _, rfl, ?_⟩
          rw [Addr.add_add]
          refine ⟨bxc hb3' 5 1 (by simp), ?_⟩
          rw [bxe hb3']
          have hB7 := hB.put_ne (o' := .cells ⟨putL [.slice s.a s.n s.c, .slice hs.a hs.n hs.c, .slice none 0 0, .int .i64 0, .int .i64 0, .int .i64 0, .int .i64 0, .int .i64 0, .slice w.a w.n w.c, .slice none 0 0] 5 [.int .i64 w.n]⟩ 74 (0, 0)) hb3
          have hmp := minus_put_eq (o' := .cells ⟨putL [.slice s.a s.n s.c, .slice hs.a hs.n hs.c, .slice none 0 0, .int .i64 0, .int .i64 0, .int .i64 0, .int .i64 0, .int .i64 0, .slice w.a w.n w.c, .slice none 0 0] 5 [.int .i64 w.n]⟩ 74 (0, 0)) hb3
          have hH7 : (V2.hide b).Le ((V3.put b (.cells ⟨putL [.slice s.a s.n s.c, .slice hs.a hs.n hs.c, .slice none 0 0, .int .i64 0, .int .i64 0, .int .i64 0, .int .i64 0, .int .i64 0, .slice w.a w.n w.c, .slice none 0 0] 5 [.int .i64 w.n]⟩ 74 (0, 0))).minus w) := by
            rw [hmp]; exact hide_le_putL hH
          have hb7 : ((V3.put b (.cells ⟨putL [.slice s.a s.n s.c, .slice hs.a hs.n hs.c, .slice none 0 0, .int .i64 0, .int .i64 0, .int .i64 0, .int .i64 0, .int .i64 0, .slice w.a w.n w.c, .slice none 0 0] 5 [.int .i64 w.n]⟩ 74 (0, 0))).minus w).see b = some (.cells ⟨putL [.slice s.a s.n s.c, .slice hs.a hs.n hs.c, .slice none 0 0, .int .i64 0, .int .i64 0, .int .i64 0, .int .i64 0, .int .i64 0, .slice w.a w.n w.c, .slice none 0 0] 5 [.int .i64 w.n]⟩ 74 (0, 0)) := by
            rw [hmp, View.see_put_same]
          generalize V3.put b (.cells ⟨putL [.slice s.a s.n s.c, .slice hs.a hs.n hs.c, .slice none 0 0, .int .i64 0, .int .i64 0, .int .i64 0, .int .i64 0, .int .i64 0, .slice w.a w.n w.c, .slice none 0 0] 5 [.int .i64 w.n]⟩ 74 (0, 0)) = V7 at hB7 hH7 hb7
          have hS7 : Mv (fun i => i = b) V02 V2 V02 V7 := Mv.ofHide hS2.sub hn2 (hH7.trans (View.minus_le _ _)) (fun _ => by rw [(View.minus_le _ _).see _ _ hb7]; simp)
          obtain ⟨V07, hS8, hle8, hw8, _⟩ := hB7.share (α := UInt8) hS7 (u8s_rep _) (fun i hi => by
            by_cases e : i = b
            · subst e; rw [hb7]; simp
            · cases hs : V2.see i with
              | none => exact absurd hs hi
              | some o => rw [hH7.see i o (by rw [hide_see, if_neg e]; exact hs)]; simp) (hH0.trans hH7)
          refine ⟨V07, hS2.trans hS8, ?_⟩
          rcases hcase with ⟨rfl, hr⟩ | ⟨hr, he, rfl⟩
          · rw [hr] at hP
            dsimp only at hP
            rw [hP]
            refine ⟨rfl, _, (View.minus_le _ _).see _ _ hb7, ⟨s, hs, ⟨none, 0, 0⟩, w, ⟨none, 0, 0⟩, ?_, hm2.tre.mono hle8, hm2.hands.mono hle8, SlR.nil _ _ _, hw8, SlR.nil _ _ _⟩⟩
            rw [show w.n = (readPg pg l).length from hwn]; rfl
          · rw [hr] at hP
            dsimp only at hP
            rw [hP]
            exact ⟨rfl, he⟩
end
end Go.Proofs.YtoogangnldppaaaGreatDoor

/- Contracts of the model: what would come of a call. -/
namespace Go.Proofs.YtoogangnldppaaaGreatDoor
open Go
theorem outTS_wk {B : Nat → Prop} {V0 V V' : View} {r : Value} {o : Except Int Tre} : outTS V0 V V' r o → ∃ (V0' : View) (x : Sl) (e : Int), r = .tuple ⟨[treV x, .int .i64 e]⟩ ∧ (match o with
  | .ok u => e = 0 ∧ SlR V0' x u
  | .error c => e = c ∧ c ≠ 0) ∧ Mv B V0 V V0' V' := by
  rintro ⟨V0', x, e, h1, h2, h3⟩
  exact ⟨V0', x, e, h1, h2, h3.weaken fun i h => h.elim⟩
/-- A deed as a value. -/
def deeV (W : View) (r : Value) (d : Dee) : Prop := ∃ cs, r = .agg ⟨cs⟩ ∧ DeeR W cs d
section
variable {V0 V : View} {p mb : Nat} {m : PMod} {c : Cal} {y : Sl} {s hs : Sl} {es : Array MapEntry} {cl : Nat}
theorem modPlans_ok (hm : ModC V0 V p mb m s hs es cl) (hle : V0.Le V) (hnp : V0.see p = none) (hnm : V0.see mb = none) (hO : OkP m) (hc : CalR V0 y c) (hg : Glo V0) :
    CallV Tryz.prog 34 ⟨[.pointer (some ⟨p, 0, none⟩), calV c y]⟩ V fun r V' => ∃ V0', Mv (fun _ => False) V0 V V0' V' ∧ deeV V0' r (plansP m c) := by
  refine f34_x ?_
  unfold f34_n
  have hM := hO.may
  have hdat : inI .i64 m.data := inI64 (by have := hO.d1; omega) (by have := hO.d2; omega)
  refine fun _ _ => ⟨trivial, V, View.Le.refl _, _, rfl, s, bx1 hm.box 1 rfl, _, rfl, hs, bx hm.box 2 rfl, fun b => ⟨View.Le.refl _, fun hfr => ?_⟩⟩
  have hn0 : V0.see b = none := see_none_le hle hfr
  have hbp : b ≠ p := by rintro rfl; rw [hm.box] at hfr; cases hfr
  have hbm : b ≠ mb := by rintro rfl; rw [hm.map] at hfr; cases hfr
  have hs0 : (V.put b (.cells ⟨[.slice none 0 0, .slice none 0 0, .slice none 0 0, .int .i64 0, .int .i64 0, .int .i64 0, .int .i64 0, .int .i64 0, .slice none 0 0, .slice none 0 0]⟩ 74 (0, 0))).see b = some _ := View.see_put_same _ _ _
  have hb1 : (V.put b (.cells ⟨[.slice none 0 0, .slice none 0 0, .slice none 0 0, .int .i64 0, .int .i64 0, .int .i64 0, .int .i64 0, .int .i64 0, .slice none 0 0, .slice none 0 0]⟩ 74 (0, 0))).sets ⟨b, 0, none⟩ [.slice s.a s.n s.c, .slice hs.a hs.n hs.c, .slice none 0 0, .int .i64 0, .int .i64 0, .int .i64 0, .int .i64 0, .int .i64 0, .slice none 0 0, .slice none 0 0] =
      V.put b (.cells ⟨[.slice s.a s.n s.c, .slice hs.a hs.n hs.c, .slice none 0 0, .int .i64 0, .int .i64 0, .int .i64 0, .int .i64 0, .int .i64 0, .slice none 0 0, .slice none 0 0]⟩ 74 (0, 0)) := by
    rw [sets_see hs0, View.put_put]; rfl
  refine ⟨canSet_of hs0 (by decide), ?_⟩
  rw [hb1]
  have hS1 : Mv (fun i => i = b) V0 V V0 (V.put b (.cells ⟨[.slice s.a s.n s.c, .slice hs.a hs.n hs.c, .slice none 0 0, .int .i64 0, .int .i64 0, .int .i64 0, .int .i64 0, .int .i64 0, .slice none 0 0, .slice none 0 0]⟩ 74 (0, 0))) := Mv.put _ hle hn0 (.inl rfl)
  have hB1 : (V.put b (.cells ⟨[.slice s.a s.n s.c, .slice hs.a hs.n hs.c, .slice none 0 0, .int .i64 0, .int .i64 0, .int .i64 0, .int .i64 0, .int .i64 0, .slice none 0 0, .slice none 0 0]⟩ 74 (0, 0))).see b = some (.cells ⟨[.slice s.a s.n s.c, .slice hs.a hs.n hs.c, .slice none 0 0, .int .i64 0, .int .i64 0, .int .i64 0, .int .i64 0, .int .i64 0, .slice none 0 0, .slice none 0 0]⟩ 74 (0, 0)) := View.see_put_same _ _ _
  generalize V.put b (.cells ⟨[.slice s.a s.n s.c, .slice hs.a hs.n hs.c, .slice none 0 0, .int .i64 0, .int .i64 0, .int .i64 0, .int .i64 0, .int .i64 0, .slice none 0 0, .slice none 0 0]⟩ 74 (0, 0)) = V1 at hS1 hB1
  have hp1 : ¬ p = b := fun e => hbp e.symm
  have hp2 : ¬ mb = b := fun e => hbm e.symm
  have hm1 := hm.stp hS1 hp1 hp2
  have hd1 : DBox V0 V1 b p mb ⟨m.t, m.h, [], Ans.e 0⟩ := ⟨hn0, hbp, hbm, _, hB1, ⟨s, hs, ⟨none, 0, 0⟩, ⟨none, 0, 0⟩, ⟨none, 0, 0⟩, rfl, hm.tre, hm.hands, SlR.nil _ _ _, SlR.nil _ _ _, SlR.nil _ _ _⟩⟩
  have hD : ∀ P Q : Prop, ∀ [Decidable P] [Decidable Q], (P ↔ Q) → decide P = decide Q := fun P Q _ _ h => decide_eq_decide.2 h
  refine joinP_cut (fun q V2 => q.1 = decide (1 ≤ c.kind ∧ c.kind ≤ 6) ∧ V2 = V1) (br_intro (fun h => ⟨hD _ _ (by have := of_decide_eq_true h; omega), rfl⟩) (fun h1 => ?_)) ?_
  · refine joinP_cut (fun q V2 => q.1 = decide (1 ≤ c.kind ∧ c.kind ≤ 6) ∧ V2 = V1) (br_intro (fun h => ⟨hD _ _ (by have := of_decide_eq_true h; omega), rfl⟩) (fun h2 => ?_)) (by rintro ⟨q, ⟨⟩⟩ V2 h; exact h)
    refine joinP_cut (fun q V2 => q.1 = decide (1 ≤ c.kind ∧ c.kind ≤ 6) ∧ V2 = V1) (br_intro (fun h => ⟨hD _ _ (by have := of_decide_eq_true h; omega), rfl⟩) (fun h3 => ?_)) (by rintro ⟨q, ⟨⟩⟩ V2 h; exact h)
    refine joinP_cut (fun q V2 => q.1 = decide (1 ≤ c.kind ∧ c.kind ≤ 6) ∧ V2 = V1) (br_intro (fun h => ⟨hD _ _ (by have := of_decide_eq_true h; omega), rfl⟩) (fun h4 => ?_)) (by rintro ⟨q, ⟨⟩⟩ V2 h; exact h)
    refine joinP_cut (fun q V2 => q.1 = decide (1 ≤ c.kind ∧ c.kind ≤ 6) ∧ V2 = V1) (br_intro (fun h => ⟨hD _ _ (by have := of_decide_eq_true h; omega), rfl⟩) (fun h5 => ⟨hD _ _ ?_, rfl⟩)) (by rintro ⟨q, ⟨⟩⟩ V2 h; exact h)
    have a1 := of_decide_eq_false h1
    have a2 := of_decide_eq_false h2
    have a3 := of_decide_eq_false h3
    have a4 := of_decide_eq_false h4
    have a5 := of_decide_eq_false h5
    omega
  rintro ⟨q, ⟨⟩⟩ V2 ⟨hq, hV⟩
  have hq : q = decide (1 ≤ c.kind ∧ c.kind ≤ 6) := hq
  have hV : V2 = V1 := hV
  subst hq hV
  dsimp only [unc]
  let J : Int → View → Prop := fun e V3 => ∃ V03, Mv (fun i => i = b) V0 V V03 V3 ∧ deeO b V03 V3 (.int .i64 e) (deedP m c)
  refine joinP_cut (fun q V3 => J q.1 V3) (br_intro (fun hk => ?_) (fun hk => ?_)) ?_
  · have hP : deedP m c = match namedP m c with
      | .error e => .error e
      | .ok t => .ok ⟨t, m.h, [], Ans.e 0⟩ := by unfold deedP; rw [if_pos (of_decide_eq_true hk)]; try (cases namedP m c <;> rfl)
    refine (modNamed_ok hm1 hS1.sub hc hg).mono ?_
    rintro r V3 hr
    obtain ⟨V03, x, e, rfl, hx, hS3⟩ := outTS_wk (B := fun i => i = b) hr
    have hV23 : V2.Le V3 := by
      obtain ⟨_, _, _, _, _, h⟩ := hr
      exact h.le fun i h => h.elim
    have hd3 := hd1.grow hS3 hV23
    refine ⟨x, e, rfl, ?_⟩
    cases hn : namedP m c with
    | error e' =>
      rw [hn] at hx hP
      obtain ⟨rfl, he⟩ := hx
      obtain ⟨k1, k2, k3⟩ := hd3.set (d' := ⟨[], m.h, [], Ans.e 0⟩) hS3.sub 0 [.slice none 0 0] (by simp) (by
        rintro cs ⟨s, hs, y', z, n, rfl, h1, h2, h3, h4, h5⟩
        exact ⟨⟨none, 0, 0⟩, hs, y', z, n, rfl, SlR.nil _ _ _, h2, h3, h4, h5⟩)
      obtain ⟨cs, e1, e2⟩ := hd3.ex
      have hl : cs.length = 10 := by obtain ⟨_, _, _, _, _, e, _⟩ := e2.ex; rw [e]; rfl
      refine ⟨canSet_of e1 (by omega), V03, (hS1.trans hS3).trans ?_, ?_⟩
      · rw [sets_see e1]; exact Mv.put _ hS3.sub hd3.no (.inl rfl)
      · rw [hP]; exact ⟨rfl, he⟩
    | ok u =>
      rw [hn] at hx hP
      obtain ⟨rfl, hx⟩ := hx
      obtain ⟨k1, k2, k3⟩ := hd3.set (d' := ⟨u, m.h, [], Ans.e 0⟩) hS3.sub 0 [.slice x.a x.n x.c] (by simp) (by
        rintro cs ⟨s, hs, y', z, n, rfl, h1, h2, h3, h4, h5⟩
        exact ⟨x, hs, y', z, n, rfl, hx, h2, h3, h4, h5⟩)
      rw [Addr.add_zero] at k1 k2 k3
      refine ⟨k1, V03, (hS1.trans hS3).trans k3, ?_⟩
      rw [hP]; exact ⟨rfl, k2.ex⟩
  · have hk1 := of_decide_eq_false hk
    refine joinP_cut (fun q V3 => q.1 = decide (7 ≤ c.kind ∧ c.kind ≤ 9) ∧ V3 = V2) (br_intro (fun h => ⟨hD _ _ (by have := of_decide_eq_true h; omega), rfl⟩) (fun h1 => ?_)) ?_
    · refine joinP_cut (fun q V3 => q.1 = decide (7 ≤ c.kind ∧ c.kind ≤ 9) ∧ V3 = V2) (br_intro (fun h => ⟨hD _ _ (by have := of_decide_eq_true h; omega), rfl⟩) (fun h2 => ⟨hD _ _ ?_, rfl⟩)) (by rintro ⟨q, ⟨⟩⟩ V3 h; exact h)
      have a1 := of_decide_eq_false h1
      have a2 := of_decide_eq_false h2
      omega
    rintro ⟨q, ⟨⟩⟩ V3 ⟨hq, hV⟩
    have hq : q = decide (7 ≤ c.kind ∧ c.kind ≤ 9) := hq
    have hV : V3 = V2 := hV
    subst hq hV
    dsimp only [unc]
    refine joinP_cut (fun q V3 => J q.1 V3) (br_intro (fun hk => ?_) (fun hk => ?_)) (by rintro ⟨q, ⟨⟩⟩ V3 h; exact h)
    · have hP : deedP m c = foundP m c := by unfold deedP; rw [if_neg hk1, if_pos (of_decide_eq_true hk)]
      refine (modFound_ok hm1 hS1.sub hd1 hc hg).mono ?_
      rintro r V4 ⟨V04, hS4, h4⟩
      rw [← hP] at h4
      have : ∃ e : Int, r = .int .i64 e := by
        unfold deeO at h4
        split at h4
        · exact ⟨_, h4.1⟩
        · exact ⟨_, h4.1⟩
      obtain ⟨e, rfl⟩ := this
      exact ⟨e, rfl, V04, hS1.trans hS4, h4⟩
    · have hk2 := of_decide_eq_false hk
      refine joinP_cut (fun q V3 => J q.1 V3) (br_intro (fun hk => ?_) (fun hk => ?_)) (by rintro ⟨q, ⟨⟩⟩ V3 h; exact h)
      · have hP : deedP m c = closesP m c := by unfold deedP; rw [if_neg hk1, if_neg hk2, if_pos (of_decide_eq_true hk)]
        refine (modCloses_ok hm1 hS1.sub hM hd1).mono ?_
        rintro r V4 ⟨V04, hS4, h4⟩
        rw [← hP] at h4
        have : ∃ e : Int, r = .int .i64 e := by
          unfold deeO at h4
          split at h4
          · exact ⟨_, h4.1⟩
          · exact ⟨_, h4.1⟩
        obtain ⟨e, rfl⟩ := this
        exact ⟨e, rfl, V04, hS1.trans hS4, h4⟩
      · have hk3 := of_decide_eq_false hk
        refine joinP_cut (fun q V4 => q.1 = decide (11 ≤ c.kind ∧ c.kind ≤ 13) ∧ V4 = V3) (br_intro (fun h => ⟨hD _ _ (by have := of_decide_eq_true h; omega), rfl⟩) (fun h1 => ?_)) ?_
        · refine joinP_cut (fun q V4 => q.1 = decide (11 ≤ c.kind ∧ c.kind ≤ 13) ∧ V4 = V3) (br_intro (fun h => ⟨hD _ _ (by have := of_decide_eq_true h; omega), rfl⟩) (fun h2 => ⟨hD _ _ ?_, rfl⟩)) (by rintro ⟨q, ⟨⟩⟩ V3 h; exact h)
          have a1 := of_decide_eq_false h1
          have a2 := of_decide_eq_false h2
          omega
        rintro ⟨q, ⟨⟩⟩ V4 ⟨hq, hV⟩
        have hq : q = decide (11 ≤ c.kind ∧ c.kind ≤ 13) := hq
        have hV : V4 = V3 := hV
        subst hq hV
        dsimp only [unc]
        refine joinP_cut (fun q V3 => J q.1 V3) (br_intro (fun hk => ?_) (fun hk => ?_)) (by rintro ⟨q, ⟨⟩⟩ V3 h; exact h)
        · have hP : deedP m c = heldP m c := by unfold deedP; rw [if_neg hk1, if_neg hk2, if_neg hk3, if_pos (of_decide_eq_true hk)]
          refine (modHeld_ok hm1 hS1.sub hM hdat hO.p16 hc hn0 hbp hbm hB1).mono ?_
          rintro r V5 ⟨V05, hS5, h5⟩
          rw [← hP] at h5
          have : ∃ e : Int, r = .int .i64 e := by
            unfold deeO at h5
            split at h5
            · exact ⟨_, h5.1⟩
            · exact ⟨_, h5.1⟩
          obtain ⟨e, rfl⟩ := this
          exact ⟨e, rfl, V05, hS1.trans hS5, h5⟩
        · have hk4 := of_decide_eq_false hk
          refine joinP_cut (fun q V3 => J q.1 V3) (br_intro (fun hk => ?_) (fun hk => ?_)) (by rintro ⟨q, ⟨⟩⟩ V3 h; exact h)
          · have hP : deedP m c = .ok ⟨m.t, m.h, [], Ans.e 0⟩ := by unfold deedP; rw [if_neg hk1, if_neg hk2, if_neg hk3, if_neg hk4, if_pos (of_decide_eq_true hk)]
            refine ⟨V0, hS1, ?_⟩
            rw [hP]; exact ⟨rfl, hd1.ex⟩
          · have hk5 := of_decide_eq_false hk
            refine joinP_cut (fun q V3 => J q.1 V3) (br_intro (fun hk => ?_) (fun hk => ?_)) (by rintro ⟨q, ⟨⟩⟩ V3 h; exact h)
            · have hP : deedP m c = .ok ⟨m.t, m.h, [], ⟨0, 0, leftT m.t m.data, 0, freeQ m.t, [], []⟩⟩ := by unfold deedP; rw [if_neg hk1, if_neg hk2, if_neg hk3, if_neg hk4, if_neg hk5, if_pos (of_decide_eq_true hk)]
              refine ⟨trivial, V4, View.Le.refl _, _, rfl, s, bx1 hm1.box 1 rfl, _, rfl, _, bx hm1.box 0 rfl, _, rfl, s, bx1 hm1.box 1 rfl, ?_⟩
              refine (quotaLeft_ok (hm1.tre.mono hS1.sub) (by have := hO.d2; omega)).mono ?_
              rintro r V5 ⟨rfl, hV5⟩
              refine ⟨_, rfl, hV5, (quotaNodes_ok (hm1.tre.mono (hS1.sub.trans hV5))).mono ?_⟩
              rintro r V6 ⟨rfl, rfl⟩
              have hS5 : Mv (fun i => i = b) V0 V4 V0 V6 := Mv.grow hS1.sub hV5
              have hd5 := hd1.grow hS5 hV5
              obtain ⟨k1, k2, k3⟩ := hd5.set (d' := ⟨m.t, m.h, [], ⟨0, 0, leftT m.t m.data, 0, freeQ m.t, [], []⟩⟩) hS5.sub 3 [.int .i64 0, .int .i64 0, .int .i64 (leftT m.t m.data), .int .i64 0, .int .i64 (freeQ m.t : Nat), .slice none 0 0, .slice none 0 0] (by simp) (by
                rintro cs ⟨s, hs, y, x, n, rfl, h1, h2, h3, h4, h5⟩
                exact ⟨s, hs, y, ⟨none, 0, 0⟩, ⟨none, 0, 0⟩, rfl, h1, h2, h3, SlR.nil _ _ _, SlR.nil _ _ _⟩)
              rw [addr0_add] at k1 k2 k3
              refine ⟨_, rfl, k1, V0, (hS1.trans hS5).trans k3, ?_⟩
              rw [hP]; exact ⟨rfl, k2.ex⟩
            · have hP : deedP m c = .error 1 := by unfold deedP; rw [if_neg hk1, if_neg hk2, if_neg hk3, if_neg hk4, if_neg hk5, if_neg (of_decide_eq_false hk)]
              refine ⟨V0, hS1, ?_⟩
              rw [hP]; exact ⟨rfl, by decide⟩
  · rintro ⟨e, ⟨⟩⟩ V3 ⟨V03, hS3, hO3⟩
    have hO3 : deeO b V03 V3 (.int .i64 e) (deedP m c) := hO3
    dsimp only [unc]
    have hSf : Mv (fun _ => False) V0 V V03 V3 := hS3.weaken fun i hi => .inr (by rw [hi]; exact hfr)
    have hm3 := hm.stp hSf id id
    have hPl : plansP m c = match deedP m c with
      | .error e => ⟨m.t, m.h, [], Ans.e e⟩
      | .ok d => d := rfl
    cases hdp : deedP m c with
    | error e' =>
      rw [hdp] at hO3 hPl
      obtain ⟨he, hne⟩ := hO3
      cases he
      refine br_intro (fun _ => ⟨trivial, V3, View.Le.refl _, _, rfl, s, bx1 hm3.box 1 rfl, _, rfl, hs, bx hm3.box 2 rfl, V03, hSf, ?_⟩) (fun h => absurd (of_decide_eq_true (not_f h)) hne)
      rw [hPl]
      exact ⟨_, rfl, ⟨s, hs, ⟨none, 0, 0⟩, ⟨none, 0, 0⟩, ⟨none, 0, 0⟩, rfl, hm3.tre, hm3.hands, SlR.nil _ _ _, SlR.nil _ _ _, SlR.nil _ _ _⟩⟩
    | ok d =>
      rw [hdp] at hO3 hPl
      obtain ⟨he, cs, h1, h2⟩ := hO3
      cases he
      obtain ⟨s', hs', y', x', n', rfl, g⟩ := h2.ex
      refine br_intro (fun h => absurd h (by decide)) (fun _ => ⟨s', hs', y', _, _, _, _, _, x', n', cellsAt_of_see h1 (fun j v hj => by simpa using hj), V03, hSf, ?_⟩)
      rw [hPl]
      exact ⟨_, rfl, h2⟩
end
end Go.Proofs.YtoogangnldppaaaGreatDoor

/- The model, plain: what holds of what would come of a call. -/
namespace Go.Proofs.YtoogangnldppaaaGreatDoor
open Go
theorem mem_allS {t : Tre} {s : Int} : s ∈ allS t ↔ ∃ k, k < t.length ∧ s ∈ (t.getD k default).seqs := by
  unfold allS
  rw [List.mem_flatMap]
  constructor
  · rintro ⟨n, hn, hs⟩
    obtain ⟨k, hk, rfl⟩ := List.getElem_of_mem hn
    exact ⟨k, hk, by rw [getD_at hk]; exact hs⟩
  · rintro ⟨k, hk, hs⟩
    rw [getD_at hk] at hs
    exact ⟨_, List.getElem_mem hk, hs⟩
/-- Each Seq is an old one. -/
def SubS (u t : Tre) : Prop := ∀ s ∈ allS u, s = 0 ∨ s ∈ allS t
theorem SubS.refl (t : Tre) : SubS t t := fun _ h => .inr h
theorem SubS.trans {a b c : Tre} (h : SubS a b) (k : SubS b c) : SubS a c := fun s hs => (h s hs).elim .inl (k s)
theorem SubS.top {u t : Tre} {q : Int} (h : SubS u t) (ht : TopS t q) (h0 : 0 ≤ q) : TopS u q := fun s hs => (h s hs).elim (fun e => by omega) (ht s)
theorem SubS.set {t : Tre} {k : Nat} {n : Nod} (h : ∀ s ∈ n.seqs, s = 0 ∨ s ∈ allS t) : SubS (t.set k n) t := by
  intro s hs
  unfold allS at hs
  rw [List.mem_flatMap] at hs
  obtain ⟨m, hm, hs⟩ := hs
  rcases List.mem_or_eq_of_mem_set hm with h1 | h1
  · exact .inr (List.mem_flatMap.2 ⟨m, h1, hs⟩)
  · subst h1; exact h s hs
theorem seqs_allS {t : Tre} {k : Nat} {s : Int} (h : s ∈ (t.getD k default).seqs) : s ∈ allS t := by
  by_cases hk : k < t.length
  · exact mem_allS.2 ⟨k, hk, h⟩
  · rw [List.getD_eq_getElem?_getD, List.getElem?_eq_none (by omega)] at h
    cases h
theorem sub_ent (t : Tre) (d : Nat) (l : List Ent) : SubS (entT t d l) t := SubS.set fun _ h => .inr (seqs_allS h)
theorem sub_zero (t : Tre) (k : Nat) : SubS (t.set k Nod.zero) t := SubS.set fun _ h => by cases h
theorem sub_empty (t : Tre) (k : Nat) (x : Int) : SubS (t.set k (emptyN x)) t := SubS.set fun s h => by
  unfold emptyN at h
  split at h
  · simp at h; exact .inl h
  · split at h
    · cases h
    · cases h
theorem sub_less (t : Tre) (k : Nat) (h : List Bool) : SubS (lessT t k h) t := by
  unfold lessT
  split
  · exact SubS.set fun _ h => .inr (seqs_allS h)
  · exact sub_zero t k
theorem makes_sub {t u : Tre} {p : ByteArray} {k : Int} (h : makesT t p k = .ok u) : SubS u t := by
  unfold makesT at h
  split at h
  · cases h
  · split at h
    · cases h
    · split at h
      · cases h
      · split at h
        · cases h
        · cases h
          exact (sub_empty _ _ _).trans (sub_ent _ _ _)
theorem unlink_sub {t u : Tre} {p : ByteArray} {held : List Bool} (h : unlinkT t p held = .ok u) : SubS u t := by
  unfold unlinkT at h
  split at h
  · cases h
  · split at h
    · cases h
    · split at h
      · cases h
      · cases h
        exact (sub_less _ _ _).trans (sub_ent _ _ _)
theorem rmdir_sub {t u : Tre} {p : ByteArray} (h : rmdirT t p = .ok u) : SubS u t := by
  unfold rmdirT at h
  split at h
  · cases h
  · split at h
    · cases h
    · split at h
      · cases h
      · split at h
        · cases h
        · cases h
          exact (sub_zero _ _).trans (sub_ent _ _ _)
theorem link_sub {t u : Tre} {p q : ByteArray} (h : linkT t p q = .ok u) : SubS u t := by
  unfold linkT at h
  split at h
  · cases h
  · split at h
    · cases h
    · split at h
      · cases h
      · split at h
        · cases h
        · split at h
          · cases h
          · cases h
            intro s hs
            unfold allS at hs
            rw [List.mem_flatMap] at hs
            obtain ⟨m, hm, hs⟩ := hs
            rcases List.mem_or_eq_of_mem_set hm with h1 | h1
            · exact sub_ent _ _ _ s (List.mem_flatMap.2 ⟨m, h1, hs⟩)
            · subst h1; exact .inr (seqs_allS hs)
theorem move_sub (t : Tre) (d : Nat) (s : ByteArray) (i f : Nat) (r : ByteArray) (k : Int) (held : List Bool) : SubS (moveT t d s i f r k held) t := by
  unfold moveT
  split
  · exact (sub_less _ _ _).trans ((sub_ent _ _ _).trans (sub_ent _ _ _))
  · exact sub_ent _ _ _
theorem rename_sub {t u : Tre} {p q : ByteArray} {held : List Bool} (h : renameT t p q held = .ok u) : SubS u t := by
  unfold renameT at h
  split at h
  · cases h
  · split at h
    · cases h
    · split at h
      · cases h
      · split at h
        · cases h; exact SubS.refl t
        · split at h
          · cases h
          · split at h
            · cases h
            · split at h
              · cases h
              · cases h
                exact (sub_ent _ _ _).trans (move_sub _ _ _ _ _ _ _ _)
theorem drop_sub {t u : Tre} {i : Int} (h : dropT t i = .ok u) : SubS u t := by
  unfold dropT at h
  split at h
  · split at h
    · cases h; exact sub_zero _ _
    · cases h
  · cases h
theorem named_sub {m : PMod} {c : Cal} {u : Tre} (h : namedP m c = .ok u) : SubS u m.t := by
  unfold namedP at h
  repeat' split at h
  · exact makes_sub h
  · exact makes_sub h
  · exact unlink_sub h
  · exact rmdir_sub h
  · exact rename_sub h
  · exact link_sub h
theorem named_may {m : PMod} {c : Cal} {u : Tre} (h : namedP m c = .ok u) : mayT u = true := by
  unfold namedP at h
  repeat' split at h
  · exact makes_may (.inl rfl) h
  · exact makes_may (.inr rfl) h
  · exact unlink_may h
  · exact rmdir_may h
  · exact rename_may h
  · exact link_mayT h
theorem drop_mayU {t u : Tre} {i : Int} (h : dropT t i = .ok u) : mayT u = true := by
  unfold dropT at h
  split at h
  · rename_i hM
    split at h
    · rename_i hc
      cases h
      exact drop_may hM (by omega) hc.2.2.1 hc.2.2.2
    · cases h
  · cases h
/-! ### writes -/
theorem pcsF_at : ∀ {f a n : Nat} {p : Pce}, p ∈ pcsF f a n → ∃ a' : Nat, p.page = (a' / 16 : Nat) ∧ a' < a + n ∧ p.len ≤ 16
  | 0, _, _, _, h => by cases h
  | f + 1, a, n, p, h => by
    unfold pcsF at h
    split at h
    · cases h
    · rcases List.mem_cons.1 h with h | h
      · subst h
        exact ⟨a, rfl, by omega, by dsimp only; omega⟩
      · obtain ⟨a', h1, h2, h3⟩ := pcsF_at h
        exact ⟨a', h1, by omega, h3⟩
theorem todosW_mem {n : Nod} {i : Int} {x : Tod} : ∀ {ps : List Pce} {b : List UInt8}, x ∈ todosW n i ps b → x.node = i ∧ x.keep = 16 ∧ ∃ p ∈ ps, x.page = p.page ∧ x.old = n.seqs.getD p.page.toNat 0 ∧ x.from_ = p.from_ ∧ (x.data.length : Int) ≤ p.len.toNat
  | [], _, h => by cases h
  | p :: ps, b, h => by
    rcases List.mem_cons.1 h with h | h
    · subst h
      exact ⟨rfl, rfl, p, by simp, rfl, rfl, rfl, by simp; omega⟩
    · obtain ⟨h1, h2, q, h3, h4⟩ := todosW_mem h
      exact ⟨h1, h2, q, by simp [h3], h4⟩
theorem todosW_len (n : Nod) (i : Int) : ∀ (ps : List Pce) (b : List UInt8), (todosW n i ps b).length = ps.length
  | [], _ => rfl
  | p :: ps, b => by simp [todosW, todosW_len n i ps]
/-- What is to be written into file k of u, which was t. -/
structure TodoOk (t u : Tre) (l : List Tod) : Prop where
  may : mayT u = true
  sub : SubS u t
  len : l.length ≤ 80
  k12 : nodeD l < 12
  todo : ∀ x ∈ l, x.node = nodeD l ∧ 0 ≤ x.page ∧ x.page < 5 ∧ x.page * 16 < (u.getD (nodeD l) default).size ∧ kindT u (nodeD l) = 1 ∧ x.data.length ≤ 100 ∧ x.old = (t.getD (nodeD l) default).seqs.getD x.page.toNat 0 ∧ kindT t (nodeD l) = 1
theorem TodoOk.nil {t u : Tre} (h1 : mayT u = true) (h2 : SubS u t) : TodoOk t u [] := ⟨h1, h2, by simp, by simp [nodeD], fun x h => by cases h⟩
theorem node_of {l : List Tod} {i : Int} (h : ∀ x ∈ l, x.node = i) (h0 : 0 ≤ i) (hl : l ≠ []) : (nodeD l : Int) = i := by
  cases l with
  | nil => exact absurd rfl hl
  | cons x l =>
    have := h x (by simp)
    show (x.node.toNat : Int) = i
    omega
theorem size_may {t : Tre} (hM : mayT t = true) {k : Nat} (hk : k < 12) (hkk : kindT t k = 1) {z : Int} (h1 : (t.getD k default).size ≤ z) (h2 : z ≤ 80) : mayT (t.set k { t.getD k default with size := z }) = true := by
  have hF := mayF hM
  obtain ⟨f1, f2, f3, f4, f5, f6, f7⟩ := file_facts (hF.at hk) hkk
  refine file_set_may hM hk hkk hkk rfl (file_may_of hkk ⟨f1, f2, by dsimp only; omega, h2, f5, f6, fun i hi => ?_⟩) (apart_set (mayT_apart hM) (by rw [hF.len]; exact hk) (List.Sublist.refl _))
  obtain ⟨a, b, c⟩ := f7 i hi
  exact ⟨a, b, fun h => c (by dsimp only at h; omega)⟩
theorem write_todo {t u : Tre} {d i a : Int} {b : List UInt8} {l : List Tod} (hM : mayT t = true) (h : writeT t d i a b = .ok (u, l)) : TodoOk t u l := by
  unfold writeT at h
  split at h
  · cases h
  rename_i hc
  have hq : fileQ t i = true := by
    cases hh : fileQ t i with
    | true => rfl
    | false => exact absurd (.inl hh) hc
  have ha : 0 ≤ a := by
    apply Classical.byContradiction
    intro h0; exact hc (.inr (by omega))
  obtain ⟨_, hi0, hi1, hik⟩ := fileQ_iff hq
  have h12 := (mayF hM).len
  split at h
  · cases h; exact TodoOk.nil hM (SubS.refl t)
  split at h
  · cases h
  rename_i hf
  have hf : fitsI a b.length = true := by
    cases hh : fitsI a b.length with
    | true => rfl
    | false => exact absurd hh hf
  split at h
  · cases h
  cases h
  have hf0 := hf
  unfold fitsI at hf0
  have hf0 := of_decide_eq_true hf0
  obtain ⟨f1, f2, f3, f4, f5, f6, f7⟩ := file_facts ((mayF hM).at (show i.toNat < 12 by omega)) hik
  by_cases hl : todosW (t.getD i.toNat default) i (piecesI a b.length) b = []
  · rw [hl]
    exact TodoOk.nil (size_may hM (by omega) hik (by omega) (by omega)) (SubS.set fun _ h => .inr (seqs_allS h))
  have hk := node_of (fun x hx => (todosW_mem hx).1) hi0 hl
  have hk : nodeD (todosW (t.getD i.toNat default) i (piecesI a b.length) b) = i.toNat := by omega
  refine ⟨size_may hM (by omega) hik (by omega) (by omega), SubS.set fun _ h => .inr (seqs_allS h), by rw [todosW_len]; exact pieces_len _ _, by omega, fun x hx => ?_⟩
  rw [hk]
  obtain ⟨h1, h2, p, hp, h3, h4, h5, h6⟩ := todosW_mem hx
  obtain ⟨q1, q2, q3, q4, q5⟩ := pieces_mem hp
  rw [piecesI_pcs hf] at hp
  obtain ⟨a', p1, p2, p3⟩ := pcsF_at hp
  rw [getD_setK (by omega)]
  refine ⟨by omega, by omega, by omega, ?_, ?_, by omega, by rw [h4, h3], hik⟩
  · show x.page * 16 < max (t.getD i.toNat default).size (a + b.length)
    omega
  · unfold kindT; rw [getD_setK (by omega)]; exact hik
theorem filt_set0 : ∀ (l : List Int) (i : Nat), List.Sublist ((l.set i 0).filter fun s => decide (s ≠ 0)) (l.filter fun s => decide (s ≠ 0))
  | [], _ => by simp
  | x :: l, 0 => by
    rw [List.set_cons_zero, List.filter_cons_of_neg (by simp), List.filter_cons]
    split
    · exact List.sublist_cons_self _ _
    · exact List.Sublist.refl _
  | x :: l, i + 1 => by
    rw [List.set_cons_succ, List.filter_cons, List.filter_cons]
    split
    · exact (filt_set0 l i).cons_cons _
    · exact filt_set0 l i
theorem filt_cut {l : List Int} (h5 : l.length = 5) (z : Int) : ∀ k, List.Sublist ((cutS l z k).filter fun s => decide (s ≠ 0)) (l.filter fun s => decide (s ≠ 0))
  | 0 => by rw [cutS_zero z h5]; exact List.Sublist.refl _
  | k + 1 => by
    by_cases h : z ≤ (k : Int) * 16
    · rw [← cutS_set h]; exact (filt_set0 _ _).trans (filt_cut h5 z k)
    · rw [← cutS_skip h]; exact filt_cut h5 z k
theorem trunc_todo {t u : Tre} {i z : Int} {l : List Tod} (hM : mayT t = true) (h : truncT t i z = .ok (u, l)) : TodoOk t u l := by
  unfold truncT at h
  split at h
  · cases h
  rename_i hc
  have hq : fileQ t i = true := by
    cases hh : fileQ t i with
    | true => rfl
    | false => exact absurd (.inl hh) hc
  have hz0 : 0 ≤ z := by
    apply Classical.byContradiction
    intro h0; exact hc (.inr (by omega))
  obtain ⟨_, hi0, hi1, hik⟩ := fileQ_iff hq
  have h12 := (mayF hM).len
  split at h
  · cases h
  cases h
  obtain ⟨f1, f2, f3, f4, f5, f6, f7⟩ := file_facts ((mayF hM).at (show i.toNat < 12 by omega)) hik
  have hmay : mayT (t.set i.toNat { t.getD i.toNat default with size := z, seqs := cutS (t.getD i.toNat default).seqs z 5 }) = true := by
    refine file_set_may hM (by omega) hik hik rfl (file_may_of hik ⟨f1, f2, hz0, by dsimp only; omega, cutS_len _ _ _, f6, fun j hj => ?_⟩) (apart_set (mayT_apart hM) (by omega) (filt_cut f5 z 5))
    dsimp only
    rw [cutS_get hj]
    obtain ⟨a, b, c⟩ := f7 j hj
    split
    · exact ⟨by omega, by omega, fun _ => rfl⟩
    · exact ⟨a, b, fun h => by omega⟩
  have hsub : SubS (t.set i.toNat { t.getD i.toNat default with size := z, seqs := cutS (t.getD i.toNat default).seqs z 5 }) t := by
    refine SubS.set fun s hs => ?_
    dsimp only at hs
    unfold cutS at hs
    obtain ⟨p, hp, rfl⟩ := List.mem_map.1 hs
    have hp := List.mem_range.1 hp
    split
    · exact .inl rfl
    · rw [getD_at0 (by omega)]; exact .inr (seqs_allS (List.getElem_mem _))
  by_cases hl : z < (t.getD i.toNat default).size ∧ 0 < z % 16 ∧ (t.getD i.toNat default).seqs.getD (z / 16).toNat 0 ≠ 0
  · have hE : todosC (t.getD i.toNat default) i z = [⟨i, z / 16, (t.getD i.toNat default).seqs.getD (z / 16).toNat 0, z % 16, 0, []⟩] := by unfold todosC; rw [if_pos hl]
    rw [hE]
    refine ⟨hmay, hsub, by simp, by show i.toNat < 12; omega, fun x hx => ?_⟩
    have hx := List.mem_singleton.1 hx
    subst hx
    show i = (i.toNat : Int) ∧ 0 ≤ z / 16 ∧ z / 16 < 5 ∧ z / 16 * 16 < _ ∧ _ ∧ (0 : Nat) ≤ 100 ∧ _ = ((t.getD i.toNat default).seqs.getD (z / 16).toNat 0) ∧ kindT t i.toNat = 1
    rw [show nodeD [(⟨i, z / 16, (t.getD i.toNat default).seqs.getD (z / 16).toNat 0, z % 16, 0, []⟩ : Tod)] = i.toNat from rfl]
    refine ⟨by omega, by omega, by omega, ?_, ?_, by omega, rfl, hik⟩
    · rw [getD_setK (by omega)]; dsimp only; omega
    · unfold kindT; rw [getD_setK (by omega)]; exact hik
  · have hE : todosC (t.getD i.toNat default) i z = [] := by unfold todosC; rw [if_neg hl]
    rw [hE]; exact TodoOk.nil hmay hsub
/-- Of what would come of a call. -/
theorem open_off {h l : List Int} {i k : Int} (ho : openH h i = .ok (l, k)) : offH l = false ∧ 0 ≤ k ∧ k < 4 := by
  unfold openH at ho
  split at ho
  · cases ho
  · rename_i hc
    split at ho
    · cases ho
    · rename_i hk
      cases ho
      have hoff : offH h = false := by
        cases hh : offH h with
        | false => rfl
        | true => exact absurd (.inl hh) hc
      have hr := idxI_range (fun n => decide (-1 = n)) h
      have hl := offH_len hoff
      refine ⟨?_, by omega, by omega⟩
      unfold offH
      rw [Bool.or_eq_false_iff]
      constructor
      · rw [List.length_set, hl]; rfl
      · rw [List.any_eq_false]
        intro x hx
        rcases List.mem_or_eq_of_mem_set hx with h | h
        · have := offH_mem hoff h
          simp; omega
        · have : 0 ≤ i ∧ i < 12 := by
            constructor
            · apply Classical.byContradiction; intro h; exact hc (.inr (.inl (by omega)))
            · apply Classical.byContradiction; intro h; exact hc (.inr (.inr (by omega)))
          simp; omega
theorem plans_ok {m : PMod} {c : Cal} (hO : OkP m) : TodoOk m.t (plansP m c).t (plansP m c).todo ∧ offH (plansP m c).h = false := by
  have hsame : TodoOk m.t m.t [] := TodoOk.nil hO.may (SubS.refl _)
  unfold plansP
  cases hd : deedP m c with
  | error e => exact ⟨hsame, hO.hands⟩
  | ok d =>
    show TodoOk m.t d.t d.todo ∧ offH d.h = false
    unfold deedP at hd
    split at hd
    · cases hn : namedP m c with
      | error e => rw [hn] at hd; cases hd
      | ok t =>
        rw [hn] at hd; cases hd
        exact ⟨TodoOk.nil (named_may hn) (named_sub hn), hO.hands⟩
    split at hd
    · unfold foundP at hd
      split at hd
      · cases hd
      split at hd
      · cases hd; exact ⟨hsame, hO.hands⟩
      split at hd
      · cases hd
      split at hd
      · cases hd; exact ⟨hsame, hO.hands⟩
      split at hd
      · cases hd
      split at hd
      · cases hd
      · rename_i ho
        cases hd; exact ⟨hsame, (open_off ho).1⟩
    split at hd
    · unfold closesP at hd
      split at hd
      · cases hd
      · rename_i h i hc
        obtain ⟨_, _, _, ho, _⟩ := close_facts hc
        split at hd
        · cases hdr : dropT m.t i with
          | error e => rw [hdr] at hd; cases hd
          | ok t => rw [hdr] at hd; cases hd; exact ⟨TodoOk.nil (drop_mayU hdr) (drop_sub hdr), ho⟩
        · cases hd; exact ⟨hsame, ho⟩
    split at hd
    · unfold heldP at hd
      split at hd
      · cases hd
      · rename_i i hi
        split at hd
        · cases hw : writeT m.t m.data i c.at_ c.data with
          | error e => rw [hw] at hd; cases hd
          | ok o => obtain ⟨u, l⟩ := o; rw [hw] at hd; cases hd; exact ⟨write_todo hO.may hw, hO.hands⟩
        split at hd
        · cases hw : truncT m.t i c.at_ with
          | error e => rw [hw] at hd; cases hd
          | ok o => obtain ⟨u, l⟩ := o; rw [hw] at hd; cases hd; exact ⟨trunc_todo hO.may hw, hO.hands⟩
        split at hd
        · cases hd
        · cases hd; exact ⟨hsame, hO.hands⟩
    split at hd
    · cases hd; exact ⟨hsame, hO.hands⟩
    split at hd
    · cases hd; exact ⟨hsame, hO.hands⟩
    · cases hd
theorem putsP_16 : ∀ {P : Int → Option (List UInt8)} {q : Int} {l : List Tod}, (∀ k b, P k = some b → b.length = 16) → ∀ k b, putsP P q l k = some b → b.length = 16
  | P, q, [], h => h
  | P, q, x :: l, h => putsP_16 (l := l) fun k b hb => by
    split at hb
    · cases hb; exact makeB_len _ _
    · exact h k b hb
/-- What is asked of Done. -/
theorem do_pre {m : PMod} {c : Cal} (hO : OkP m) (hs : m.seq + 80 ≤ 1099511627776) : mayT (doP m c).t = true ∧ TopS (doP m c).t (m.seq + (plansP m c).todo.length) ∧
    ((plansP m c).todo ≠ [] → DonePre (plansP m c).t (plansP m c).todo (upS m.seq (plansP m c).todo.length) (nodeD (plansP m c).todo)) := by
  obtain ⟨hT, _⟩ := plans_ok (c := c) hO
  have hlen := hT.len
  have htop := hT.sub.top hO.top hO.s0
  have hs0 := hO.s0
  by_cases hl : (plansP m c).todo = []
  · unfold doP
    rw [hl]
    exact ⟨hT.may, fun s h => by have := htop s h; simp; omega, fun h => absurd rfl h⟩
  · obtain ⟨x, hx⟩ := List.exists_mem_of_ne_nil _ hl
    have hk := (hT.todo x hx).2.2.2.2.1
    obtain ⟨a, b⟩ := done_may (nodeD (plansP m c).todo) (plansP m c).t (plansP m c).todo m.seq hT.may hT.k12 hk htop hs0 (by omega) (fun y hy => by
      obtain ⟨_, h1, h2, h3, _⟩ := hT.todo y hy
      exact ⟨h1, h2, h3⟩)
    refine ⟨a, b, fun _ => ⟨hT.may, hT.k12, (upS_len _ _).symm, fun y hy => ?_, fun q hq => ?_, a⟩⟩
    · obtain ⟨h0, h1, h2, h3, h4, _⟩ := hT.todo y hy
      exact ⟨h0, h1, h2, h4⟩
    · have := upS_mem hq
      omega
theorem OkP.step {m : PMod} {c : Cal} (hO : OkP m) (hs : m.seq + 80 ≤ 1099511627776) : OkP (doP m c) ∧ (doP m c).seq ≤ m.seq + 80 ∧ m.seq ≤ (doP m c).seq := by
  obtain ⟨hT, ho⟩ := plans_ok (c := c) hO
  obtain ⟨h1, h2, _⟩ := do_pre (c := c) hO hs
  have hlen := hT.len
  have hs0 := hO.s0
  refine ⟨⟨h1, ho, hO.d1, hO.d2, ?_, h2, putsP_16 hO.p16⟩, ?_, ?_⟩
  · show 0 ≤ m.seq + _; omega
  · show m.seq + _ ≤ _; omega
  · show m.seq ≤ m.seq + _; omega
end Go.Proofs.YtoogangnldppaaaGreatDoor

/- Contracts of the model: a call is done. -/
namespace Go.Proofs.YtoogangnldppaaaGreatDoor
open Go
theorem minus_size (V : View) (x : Sl) : (V.minus x).size = V.size := by unfold View.minus; split <;> rfl
/-- A model's box with another last Seq. -/
theorem ModC.put {V0 V : View} {p mb : Nat} {m : PMod} {s hs : Sl} {es : Array MapEntry} {cl : Nat} (h : ModC V0 V p mb m s hs es cl) (hne : p ≠ mb) (q : Int) :
    canSet V ((⟨p, 0, none⟩ : Addr).add 4) 1 ∧ V.sets ((⟨p, 0, none⟩ : Addr).add 4) [.int .i64 q] = V.put p (.cells ⟨[.int .i64 m.data, .slice s.a s.n s.c, .slice hs.a hs.n hs.c, .map (some mb), .int .i64 q]⟩ 71 (0, 0)) ∧
    ModC V0 (V.put p (.cells ⟨[.int .i64 m.data, .slice s.a s.n s.c, .slice hs.a hs.n hs.c, .map (some mb), .int .i64 q]⟩ 71 (0, 0))) p mb { m with seq := q } s hs es cl :=
  ⟨bxc h.box 4 1 (by simp), bxe h.box 4 _, View.see_put_same _ _ _, by rw [View.see_put_ne _ _ (fun e => hne e.symm)]; exact h.map, h.tre, h.hands, h.pages⟩
theorem PagesR.put {W W' : View} {es es' : List MapEntry} {P : Int → Option (List UInt8)} (h : PagesR W es P) (hW : W.Le W') {k : Int} {z : Sl} {b : List UInt8} (hz : SlR W' z b) (hi : IntK es') (hv : ∀ k', vlk k' es' = if k' = k then some (.slice z.a z.n z.c) else vlk k' es) :
    PagesR W' es' (fun q => if q = k then some b else P q) := by
  refine ⟨hi, fun q => ?_⟩
  by_cases e : q = k
  · simp only [if_pos e]
    exact ⟨z, by rw [hv, if_pos e], hz⟩
  · simp only [if_neg e]
    have := (h.mono hW).2 q
    rw [hv, if_neg e]; exact this
section
variable {V0 V : View} {p mb : Nat} {m : PMod} {c : Cal} {y : Sl}
theorem modDo_ok (hm : ModR V0 V p mb m) (hO : OkP m) (hq : m.seq + 80 ≤ 1099511627776) (hc : CalR V0 y c) (hg : Glo V0) :
    CallV Tryz.prog 14 ⟨[.pointer (some ⟨p, 0, none⟩), calV c y]⟩ V fun r V' => ∃ V0', Mv (fun i => i = p ∨ i = mb) V0 V V0' V' ∧ ModR V0' V' p mb (doP m c) ∧ ansR V0' r (plansP m c).a := by
  refine f14_x ?_
  unfold f14_n
  obtain ⟨s, hs, es, cl, hmc⟩ := hm.ex
  have hne := hm.ne
  refine fun _ _ => br_intro (fun h => by cases h) (fun _ => (modPlans_ok hmc hm.le hm.np hm.nm hO hc hg).mono ?_)
  rintro r V1 ⟨V01, hS1, cs1, rfl, hD⟩
  obtain ⟨s1, h1, y1, x1, n1, rfl, hs1, hh1, hy1, hx1, hn1⟩ := hD.ex
  have hm1 := hmc.stp hS1 id id
  have hnp1 : V01.see p = none := hS1.apart _ hm.np (by rw [hmc.box]; simp)
  have hnm1 : V01.see mb = none := hS1.apart _ hm.nm (by rw [hmc.map]; simp)
  obtain ⟨hT, hoff⟩ := plans_ok (c := c) hO
  obtain ⟨hmay, htop, hpre⟩ := do_pre (c := c) hO hq
  have hlen := hT.len
  have hy1n := hy1.n
  have hs0 := hO.s0
  have hS1' : Mv (fun i => i = p ∨ i = mb) V0 V V01 V1 := hS1.weaken fun i h => h.elim
  have hdef : doP m c = ⟨m.data, doneU (nodeD (plansP m c).todo) (plansP m c).t (plansP m c).todo (upS m.seq (plansP m c).todo.length), (plansP m c).h, putsP m.P m.seq (plansP m c).todo, m.seq + (plansP m c).todo.length⟩ := rfl
  generalize plansP m c = d at *
  refine ⟨s1, h1, y1, _, _, _, _, _, x1, n1, rfl, fun _ => ?_⟩
  refine loop2 (k := .sl) (l := .int .i64) (fun (w : Sl) (jj : Int) V3 => ∃ (j : Nat) (V03 : View) (cs : List Value) (es : Array MapEntry) (cl : Nat), jj = j ∧ j ≤ d.todo.length ∧ Buf V3 w 3 (Rep.sz Int) cs ∧ repL (V3.minus w) cs (upS m.seq j) ∧ Mv (fun i => i = p ∨ i = mb) V01 V1 V03 (V3.minus w) ∧
      ModC V03 (V3.minus w) p mb ⟨m.data, m.t, m.h, putsP m.P m.seq (d.todo.take j), m.seq + j⟩ s hs es cl) (fun _ (jj : Int) _ => d.todo.length - jj.toNat)
    ⟨0, V01, [], es, cl, rfl, by omega, Buf.nil _ _ _, rfl, Mv.refl hS1.sub, by
      have e : m = ⟨m.data, m.t, m.h, putsP m.P m.seq (d.todo.take 0), m.seq + ((0 : Nat) : Int)⟩ := by
        show m = ⟨m.data, m.t, m.h, m.P, m.seq + 0⟩
        rw [Int.add_zero]
      rw [← e]; exact hm1⟩ ?_
  rintro (w : Sl) (jj : Int) V3 ⟨j, V03, cs, es, cl, rfl, hj, hB, hR, hS3, hm3⟩
  have hnp3 : V03.see p = none := hS3.apart _ hnp1 (by rw [hm1.box]; simp)
  have hnm3 : V03.see mb = none := hS3.apart _ hnm1 (by rw [hm1.map]; simp)
  have hwn := hB.n_eq (α := Int) hR
  rw [upS_len] at hwn
  have hbox3 : V3.see p = some (.cells ⟨[.int .i64 m.data, .slice s.a s.n s.c, .slice hs.a hs.n hs.c, .map (some mb), .int .i64 (m.seq + j)]⟩ 71 (0, 0)) := (View.minus_le _ _).see _ _ hm3.box
  have hmap3 := (View.minus_le _ _).see _ _ hm3.map
  refine br_intro (fun hlt => ?_) (fun hge => ?_)
  · have hlt : j < d.todo.length := by have := of_decide_eq_true hlt; omega
    have hxm : d.todo.getD j default ∈ d.todo := by rw [getD_at hlt]; exact List.getElem_mem _
    obtain ⟨_, _, _, _, _, hdl, _, _⟩ := hT.todo _ hxm
    have hyV : SlR (V3.minus w) y1 d.todo := hy1.mono (hS3.base.trans hS3.sub)
    obtain ⟨ad, yd, ha, hcc, hTd⟩ := (hyV.mono (View.minus_le _ _)).todN hlt
    obtain ⟨ad', yd', ha', hcc', hTd'⟩ := hyV.todN hlt
    have hyd : yd' = yd := by
      rw [ha] at ha'; cases ha'
      have h1 := hcc 5 _ rfl
      have h2 := (View.minus_le V3 w).cell (hcc' 5 _ rfl)
      rw [h1] at h2
      cases yd; cases yd'
      simp only [Option.some.injEq, Value.slice.injEq] at h2
      obtain ⟨rfl, rfl, rfl⟩ := h2
      rfl
    subst hyd
    obtain ⟨_, _, hm4⟩ := hm3.put hne (m.seq + j + 1)
    have hmp := minus_put_eq (o' := .cells ⟨[.int .i64 m.data, .slice s.a s.n s.c, .slice hs.a hs.n hs.c, .map (some mb), .int .i64 (m.seq + j + 1)]⟩ 71 (0, 0)) hm3.box
    have hB4 := hB.put_ne (o' := .cells ⟨[.int .i64 m.data, .slice s.a s.n s.c, .slice hs.a hs.n hs.c, .map (some mb), .int .i64 (m.seq + j + 1)]⟩ 71 (0, 0)) hm3.box
    rw [← hmp] at hm4
    have hS4 : Mv (fun i => i = p ∨ i = mb) V03 (V3.minus w) V03 ((V3.put p (.cells ⟨[.int .i64 m.data, .slice s.a s.n s.c, .slice hs.a hs.n hs.c, .map (some mb), .int .i64 (m.seq + j + 1)]⟩ 71 (0, 0))).minus w) := by
      rw [hmp]; exact Mv.put _ hS3.sub hnp3 (.inl (.inl rfl))
    have e4 : V3.sets ((⟨p, 0, none⟩ : Addr).add 4) [.int .i64 (m.seq + j + 1)] = V3.put p (.cells ⟨[.int .i64 m.data, .slice s.a s.n s.c, .slice hs.a hs.n hs.c, .map (some mb), .int .i64 (m.seq + j + 1)]⟩ 71 (0, 0)) := bxe hbox3 4 _
    refine ⟨by omega, by omega, ad, ha, _, _, _, _, _, yd', hcc, fun _ => ⟨_, rfl, _, bx hbox3 4 rfl, inI64 (by omega) (by omega), _, rfl, bxc hbox3 4 1 (by simp), trivial, ?_⟩⟩
    rw [e4]
    generalize V3.put p (.cells ⟨[.int .i64 m.data, .slice s.a s.n s.c, .slice hs.a hs.n hs.c, .map (some mb), .int .i64 (m.seq + j + 1)]⟩ 71 (0, 0)) = V4 at hmp hB4 hm4 hS4
    have hbox4 : (V4.minus w).see p = some (.cells ⟨[.int .i64 m.data, .slice s.a s.n s.c, .slice hs.a hs.n hs.c, .map (some mb), .int .i64 (m.seq + j + 1)]⟩ 71 (0, 0)) := hm4.box
    refine ⟨V4.minus w, View.minus_le _ _, _, rfl, some mb, bx hbox4 3 rfl, _, rfl, _, bx hbox4 4 rfl, ?_⟩
    refine (CallV.besideG (K := fun r U' => ∃ z : Sl, r = .slice z.a z.n z.c ∧ SlR U' z (pgP (putsP m.P m.seq (d.todo.take j)) (d.todo.getD j default).old)) hB4 ((modPage_ok hm4 hS4.sub _).mono fun r U' ⟨z, h1, h2, h3⟩ => ⟨⟨z, h1, h2⟩, h3⟩)).mono ?_
    rintro r V5 ⟨U5, ⟨z, rfl, hz⟩, hU45, hU5, hV45⟩
    have hB5 := hB4.mono hV45
    have h45 := hU45.trans hU5
    have h35 : V3.size ≤ V5.size := by
      have := hS4.size
      rw [minus_size, minus_size] at this
      exact Nat.le_trans this hV45.size
    refine ⟨z, rfl, h45.trans (View.minus_le _ _), ?_⟩
    have hTd5 : TodR (V5.minus w) yd' (d.todo.getD j default) := ⟨hTd'.node, hTd'.page, hTd'.old, hTd'.keep, hTd'.from_, by
      have h1 : V01.Le (V5.minus w) := hS3.base.trans (hS4.sub.trans h45)
      obtain ⟨ad2, yd2, ha2, hcc2, hTd2⟩ := (hy1.mono h1).todN hlt
      have hyd2 : yd2 = yd' := by
        rw [ha] at ha2; cases ha2
        obtain ⟨ad3, yd3, ha3, hcc3, hTd3⟩ := hy1.todN hlt
        rw [ha] at ha3; cases ha3
        have g1 := hcc2 5 _ rfl
        have g2 := h1.cell (hcc3 5 _ rfl)
        have g3 := hcc' 5 _ rfl
        have g4 := (hS3.base.trans hS3.sub).cell (hcc3 5 _ rfl)
        rw [g1] at g2
        rw [ha] at ha'; cases ha'
        rw [g3] at g4
        rw [← g4] at g2
        cases yd2; cases yd'
        simp only [Option.some.injEq, Value.slice.injEq] at g2
        obtain ⟨rfl, rfl, rfl⟩ := g2
        rfl
      subst hyd2
      exact hTd2.data⟩
    refine (CallV.besideG (K := fun r U' => ∃ b : Nat, (V5.minus w).size ≤ b ∧ r = .slice (some ⟨b, 0, none⟩) 16 16 ∧ B8 (V5.minus w) U' b (makeB (pgP (putsP m.P m.seq (d.todo.take j)) (d.todo.getD j default).old) (d.todo.getD j default))) hB5 ((fileMake_ok (hz.mono hU5) hTd5 (by omega)).mono fun r U' ⟨b, h1, h2, h3⟩ => ⟨⟨b, h1, h2, h3⟩, h3.vle⟩)).mono ?_
    rintro r V6 ⟨U6, ⟨b, hbz, rfl, hB8⟩, hU56, hU6, hV56⟩
    have h56 := hU56.trans hU6
    have h46 := h45.trans h56
    have hB6 := hB5.mono hV56
    have hb6 : (V6.minus w).see b = some (.cells ⟨u8s (makeB (pgP (putsP m.P m.seq (d.todo.take j)) (d.todo.getD j default).old) (d.todo.getD j default))⟩ 5 (0, 0)) := hU6.see _ _ hB8.at_
    have hS6 : Mv (fun i => i = p ∨ i = mb) V01 V1 V03 (V6.minus w) := (hS3.trans hS4).trans (Mv.grow hS4.sub h46)
    have hb1 : V1.see b = none := View.see_none_of_ge (by
      have h1 := hS3.size
      rw [minus_size] at h1 hbz
      omega)
    have hb03 : V03.see b = none := View.see_none_of_ge (by
      have h1 := hS3.sub.size
      rw [minus_size] at h1 hbz
      omega)
    have hS7 := hS6.share hb1 hb6 hb03
    have hz7 : SlR (V03.put b (.cells ⟨u8s (makeB (pgP (putsP m.P m.seq (d.todo.take j)) (d.todo.getD j default).old) (d.todo.getD j default))⟩ 5 (0, 0))) ⟨some ⟨b, 0, none⟩, 16, 16⟩ (makeB (pgP (putsP m.P m.seq (d.todo.take j)) (d.todo.getD j default).old) (d.todo.getD j default)) := by
      have := slR_block (te := 5) (W := V03) (l := makeB (pgP (putsP m.P m.seq (d.todo.take j)) (d.todo.getD j default).old) (d.todo.getD j default)) (View.see_put_same V03 b _) (u8s_rep _) (View.put_le hb03) (by rw [makeB_len]; omega)
      rw [makeB_len] at this
      exact this
    have hm6 : ModC V03 (V6.minus w) p mb ⟨m.data, m.t, m.h, putsP m.P m.seq (d.todo.take j), m.seq + j + 1⟩ s hs es cl := ⟨h46.see _ _ hm4.box, h46.see _ _ hm4.map, hm4.tre, hm4.hands, hm4.pages⟩
    have hmap6 := (View.minus_le _ _).see _ _ hm6.map
    have hbox6 : V6.see p = some (.cells ⟨[.int .i64 m.data, .slice s.a s.n s.c, .slice hs.a hs.n hs.c, .map (some mb), .int .i64 (m.seq + j + 1)]⟩ 71 (0, 0)) := (View.minus_le _ _).see _ _ hm6.box
    obtain ⟨f, hf1, hf2, es', cl', hmp', hik', hvl'⟩ := mput_int (es := es) (cl := cl) (k := m.seq + j + 1) (v := .slice (some ⟨b, 0, none⟩) 16 16) hm6.pages.1
    have hbx7 : (V6.put mb (.map es' cl')).see p = some (.cells ⟨[.int .i64 m.data, .slice s.a s.n s.c, .slice hs.a hs.n hs.c, .map (some mb), .int .i64 (m.seq + j + 1)]⟩ 71 (0, 0)) := by
      rw [View.see_put_ne _ _ hne]; exact hbox6
    refine ⟨⟨some ⟨b, 0, none⟩, 16, 16⟩, rfl, h46.trans (View.minus_le _ _), trivial, mb, es, cl, f, rfl, hmap6, hf1, ?_⟩
    dsimp only
    rw [hmp']
    refine ⟨_, rfl, _, bx hbx7 4 rfl, fun r hr => ?_⟩
    have hB7 := hB6.put_ne (o' := .map es' cl') hm6.map
    have hmp7 := minus_put_eq (o' := .map es' cl') hm6.map
    have hR7 : repL ((V6.put mb (.map es' cl')).minus w) cs (upS m.seq j) := by
      have : repL (V6.minus w) cs (upS m.seq j) := by
        have h1 := hR.int
        exact h1.rep
      have h1 := this.int
      exact h1.rep
    refine app0 (α := Int) (V0 := (V6.put mb (.map es' cl')).minus w) (d := m.seq + j + 1) rfl hB7 hR7 ⟨rfl, inI64 (by omega) (by omega)⟩ (View.Le.refl _) hr rfl (by show (w.n + 1) * 8 ≤ _; omega) (by show w.n + 1 ≤ _; omega) fun w' V8 cs' g1 g2 g3 => ?_
    have hmb7 : (V03.put b (.cells ⟨u8s (makeB (pgP (putsP m.P m.seq (d.todo.take j)) (d.todo.getD j default).old) (d.todo.getD j default))⟩ 5 (0, 0))).see mb = none := hS7.apart _ hnm1 (by rw [hm1.map]; simp)
    rw [hmp7] at g3
    have hS8 : Mv (fun i => i = p ∨ i = mb) (V03.put b (.cells ⟨u8s (makeB (pgP (putsP m.P m.seq (d.todo.take j)) (d.todo.getD j default).old) (d.todo.getD j default))⟩ 5 (0, 0))) (V6.minus w) (V03.put b (.cells ⟨u8s (makeB (pgP (putsP m.P m.seq (d.todo.take j)) (d.todo.getD j default).old) (d.todo.getD j default))⟩ 5 (0, 0))) (V8.minus w') :=
      (Mv.put (.map es' cl') hS7.sub hmb7 (.inl (.inr rfl))).trans (Mv.grow (Mv.put (B := fun i => i = p ∨ i = mb) (.map es' cl') hS7.sub hmb7 (.inl (.inr rfl))).sub g3)
    refine ⟨inI64 (by omega) (by omega), ⟨j + 1, _, cs', es', cl', by omega, by omega, g1, by rw [upS_snoc]; exact g2, hS7.trans hS8, ?_, ?_, hm6.tre.mono (View.put_le hb03), hm6.hands.mono (View.put_le hb03), ?_⟩, by omega⟩
    · rw [show m.seq + ((j + 1 : Nat) : Int) = m.seq + j + 1 by push_cast; omega]
      refine g3.see _ _ ?_
      rw [View.see_put_ne _ _ hne]; exact hm6.box
    · exact g3.see _ _ (View.see_put_same _ _ _)
    · rw [take_snoc hlt, putsP_snoc, List.length_take, Nat.min_eq_left (by omega)]
      exact hm6.pages.put (View.put_le hb03) hz7 hik' hvl'
  · have hge : j = d.todo.length := by have := of_decide_eq_false hge; omega
    subst hge
    rw [List.take_length] at hm3
    have hSw : Mv (fun i => i = p ∨ i = mb) V01 V1 V03 V3 := hS3.trans (Mv.grow hS3.sub (View.minus_le _ _))
    obtain ⟨V04, hS4, hle4, hw4, hno4⟩ := hB.share (α := Int) hSw (hR.int.rep) (fun i hi => hS3.keep i hi) hS3.sub
    have hnp4 : V04.see p = none := hS4.apart _ hnp1 (by rw [hm1.box]; simp)
    have hnm4 : V04.see mb = none := hS4.apart _ hnm1 (by rw [hm1.map]; simp)
    have hm4 : ModC V04 V3 p mb ⟨m.data, m.t, m.h, putsP m.P m.seq d.todo, m.seq + d.todo.length⟩ s hs es cl := ⟨hbox3, hmap3, hm3.tre.mono hle4, hm3.hands.mono hle4, hm3.pages.mono hle4⟩
    have hDd : DeeR V04 [.slice s1.a s1.n s1.c, .slice h1.a h1.n h1.c, .slice y1.a y1.n y1.c, .int .i64 d.a.err, .int .i64 d.a.hand, .int .i64 d.a.n, .int .i64 d.a.kind, .int .i64 d.a.links, .slice x1.a x1.n x1.c, .slice n1.a n1.n n1.c] d := ⟨s1, h1, y1, x1, n1, rfl, hs1.mono hS4.base, hh1.mono hS4.base, hy1.mono hS4.base, hx1.mono hS4.base, hn1.mono hS4.base⟩
    refine joinP_cut (fun q V5 => q.2.1 = h1 ∧ q.2.2.2.1 = d.a.err ∧ q.2.2.2.2.1 = d.a.hand ∧ q.2.2.2.2.2.1 = d.a.n ∧ q.2.2.2.2.2.2.1 = d.a.kind ∧ q.2.2.2.2.2.2.2.1 = d.a.links ∧ q.2.2.2.2.2.2.2.2.1 = x1 ∧ q.2.2.2.2.2.2.2.2.2.1 = n1 ∧
      ∃ V05, Mv (fun i => i = p ∨ i = mb) V04 V3 V05 V5 ∧ V3.Le V5 ∧ SlR V05 q.1 (doP m c).t) (br_intro (fun hb => ?_) (fun hb => ?_)) ?_
    · have hb := of_decide_eq_true hb
      have hne0 : d.todo ≠ [] := by
        intro e
        rw [e] at hwn
        have : w.n = 0 := hwn
        omega
      refine (CallV.stp (B := fun i => i = p ∨ i = mb) (K := fun r V' => ∃ x : Sl, r = .tuple ⟨[treV x, .int .i64 0]⟩ ∧ SlR V' x (doneU (nodeD d.todo) d.t d.todo (upS m.seq d.todo.length))) hS4.sub ((fileDone_ok (hs1.mono hS4.base) (hy1.mono hS4.base) hw4 (hpre hne0)).mono fun r V' ⟨x, h1, h2, h3⟩ => ⟨⟨x, h1, h2⟩, h3⟩)).mono ?_
      rintro r V5 ⟨V05, ⟨x, rfl, hx⟩, hS5, hV5⟩
      refine ⟨x, _, rfl, rfl, rfl, rfl, rfl, rfl, rfl, rfl, rfl, V05, hS5, hV5, ?_⟩
      rw [hdef]; exact hx
    · have hb := of_decide_eq_false hb
      have hl0 : d.todo = [] := List.length_eq_zero_iff.1 (by omega)
      refine ⟨rfl, rfl, rfl, rfl, rfl, rfl, rfl, rfl, V04, Mv.refl hS4.sub, View.Le.refl _, ?_⟩
      rw [hdef, hl0]
      exact hs1.mono hS4.base
    rintro ⟨x, x12, x13, x14, x15, x16, x17, x18, x19, x20, ⟨⟩⟩ V5 ⟨e1, e2, e3, e4, e5, e6, e7, e8, V05, hS5, hV5, hx⟩
    have e1 : x12 = h1 := e1
    have e2 : x14 = d.a.err := e2
    have e3 : x15 = d.a.hand := e3
    have e4 : x16 = d.a.n := e4
    have e5 : x17 = d.a.kind := e5
    have e6 : x18 = d.a.links := e6
    have e7 : x19 = x1 := e7
    have e8 : x20 = n1 := e8
    have hx : SlR V05 x (doP m c).t := hx
    subst e1 e2 e3 e4 e5 e6 e7 e8
    dsimp only [unc]
    have hnp5 : V05.see p = none := hS5.apart _ hnp4 (by rw [hm4.box]; simp)
    have hnm5 : V05.see mb = none := hS5.apart _ hnm4 (by rw [hm4.map]; simp)
    have hbox5 := hV5.see _ _ hbox3
    have hmap5 := hV5.see _ _ hmap3
    have f1 : V5.sets ((⟨p, 0, none⟩ : Addr).add 1) [.slice x.a x.n x.c] = V5.put p (.cells ⟨[.int .i64 m.data, .slice x.a x.n x.c, .slice hs.a hs.n hs.c, .map (some mb), .int .i64 (m.seq + d.todo.length)]⟩ 71 (0, 0)) := bxe hbox5 1 _
    have hbox6 : (V5.put p (.cells ⟨[.int .i64 m.data, .slice x.a x.n x.c, .slice hs.a hs.n hs.c, .map (some mb), .int .i64 (m.seq + d.todo.length)]⟩ 71 (0, 0))).see p = some (.cells ⟨[.int .i64 m.data, .slice x.a x.n x.c, .slice hs.a hs.n hs.c, .map (some mb), .int .i64 (m.seq + d.todo.length)]⟩ 71 (0, 0)) := View.see_put_same _ _ _
    have f2 : (V5.put p (.cells ⟨[.int .i64 m.data, .slice x.a x.n x.c, .slice hs.a hs.n hs.c, .map (some mb), .int .i64 (m.seq + d.todo.length)]⟩ 71 (0, 0))).sets ((⟨p, 0, none⟩ : Addr).add 2) [.slice x12.a x12.n x12.c] = V5.put p (.cells ⟨[.int .i64 m.data, .slice x.a x.n x.c, .slice x12.a x12.n x12.c, .map (some mb), .int .i64 (m.seq + d.todo.length)]⟩ 71 (0, 0)) := by
      rw [bxe hbox6, View.put_put]; rfl
    have g1 : Mv (fun i => i = p ∨ i = mb) V05 V5 V05 (V5.put p (.cells ⟨[.int .i64 m.data, .slice x.a x.n x.c, .slice hs.a hs.n hs.c, .map (some mb), .int .i64 (m.seq + d.todo.length)]⟩ 71 (0, 0))) := Mv.put _ hS5.sub hnp5 (.inl (.inl rfl))
    have g2 : Mv (fun i => i = p ∨ i = mb) V05 V5 V05 (V5.put p (.cells ⟨[.int .i64 m.data, .slice x.a x.n x.c, .slice x12.a x12.n x12.c, .map (some mb), .int .i64 (m.seq + d.todo.length)]⟩ 71 (0, 0))) := Mv.put _ hS5.sub hnp5 (.inl (.inl rfl))
    refine ⟨trivial, V05, hS5.sub, _, rfl, bxc hbox5 1 1 (by simp), ?_⟩
    rw [f1]
    refine ⟨g1.sub, _, rfl, bxc hbox6 2 1 (by simp), ?_⟩
    rw [f2]
    refine ⟨V05, ((hS1'.trans hS4).trans hS5).trans g2, ⟨g2.sub, hnp5, hnm5, hne, x, x12, es, cl, ?_⟩, x19, x20, rfl, hx1.mono (hS4.base.trans hS5.base), hn1.mono (hS4.base.trans hS5.base)⟩
    rw [hdef]
    rw [hdef] at hx
    exact ⟨View.see_put_same _ _ _, by rw [View.see_put_ne _ _ (fun e => hne e.symm)]; exact hmap5, hx, hh1.mono (hS4.base.trans hS5.base), hm4.pages.mono hS5.base⟩
end
end Go.Proofs.YtoogangnldppaaaGreatDoor

/- Contracts of the model: what it tells; begun anew; a new one. -/
namespace Go.Proofs.YtoogangnldppaaaGreatDoor
open Go
def NoB : Nat → Prop := fun _ => False
/-- A file's bytes. -/
def bytesN (pg : Int → List UInt8) (n : Nod) : List UInt8 := if n.kind = 1 then (piecesI 0 n.size).flatMap fun p => (pg p.page).take p.len.toNat else []
def bytesP (m : PMod) (i : Int) : List UInt8 := if i < 0 ∨ (m.t.length : Int) ≤ i then [] else
  bytesN (fun p => pgP m.P ((m.t.getD i.toNat default).seqs.getD p.toNat 0)) (m.t.getD i.toNat default)
def newP (d : Int) : PMod := ⟨d, firstT, newH, fun _ => none, 0⟩
theorem offH_new : offH newH = false := by decide
theorem allS_first : allS firstT = [] := by decide
theorem OkP.new {d : Int} (h1 : 1 ≤ d) (h2 : d ≤ 60) : OkP (newP d) :=
  ⟨mayT_first, offH_new, h1, h2, Int.le_refl 0, (fun s hs => by
    have hs : s ∈ allS firstT := hs
    rw [allS_first] at hs; cases hs), (fun q b h => by cases h)⟩
section
variable {V0 V : View} {p mb : Nat} {m : PMod} {c : Cal} {y : Sl}
theorem modWrites_ok (hm : ModR V0 V p mb m) (hO : OkP m) (hc : CalR V0 y c) (hg : Glo V0) :
    CallV Tryz.prog 16 ⟨[.pointer (some ⟨p, 0, none⟩), calV c y]⟩ V fun r V' => r = .bool (writesP m c) ∧ ∃ V0', Mv NoB V0 V V0' V' := by
  refine f16_x ?_
  unfold f16_n
  obtain ⟨s, hs, es, cl, hmc⟩ := hm.ex
  refine fun _ => br_intro (fun h => by cases h) (fun _ => (modPlans_ok hmc hm.le hm.np hm.nm hO hc hg).mono ?_)
  rintro r V1 ⟨V01, hS1, cs1, rfl, hD⟩
  obtain ⟨s1, h1, y1, x1, n1, rfl, hs1, hh1, hy1, hx1, hn1⟩ := hD.ex
  have hm1 := hmc.stp hS1 id id
  have hy1n := hy1.n
  refine ⟨s1, h1, y1, _, _, _, _, _, x1, n1, rfl, fun _ => ?_⟩
  refine joinP_cut (fun q V2 => q.1 = writesP m c ∧ V2 = V1) ⟨trivial, V1, View.Le.refl _, br_intro (fun hb => ⟨?_, rfl⟩) (fun hb => ?_)⟩ ?_
  · unfold writesP
    rw [decide_eq_true (by have := of_decide_eq_true hb; omega)]; rfl
  · refine ⟨_, rfl, s, bx1 hm1.box 1 rfl, (sameT_ok (hs1.mono hS1.sub) (hm1.tre.mono hS1.sub)).mono ?_⟩
    rintro r V2 ⟨rfl, rfl⟩
    refine ⟨_, rfl, ?_, rfl⟩
    unfold writesP
    rw [decide_eq_false (show ¬ 0 < (plansP m c).todo.length by have := of_decide_eq_false hb; omega)]; rfl
  rintro ⟨q, ⟨⟩⟩ V2 ⟨h1, hV⟩
  have h1 : q = writesP m c := h1
  have hV : V2 = V1 := hV
  subst h1 hV
  exact ⟨rfl, V01, hS1⟩
theorem modTree_ok (hm : ModR V0 V p mb m) (hM : mayT m.t = true) : CallV Tryz.prog 15 ⟨[.pointer (some ⟨p, 0, none⟩)]⟩ V fun r V' => ∃ (V0' : View) (x : Sl), r = treV x ∧ SlR V0' x m.t ∧ Mv NoB V0 V V0' V' := by
  refine f15_x ?_
  unfold f15_n
  obtain ⟨s, hs, es, cl, hmc⟩ := hm.ex
  refine fun _ => br_intro (fun h => by cases h) (fun _ => ⟨_, rfl, s, bx1 hmc.box 1 rfl, ?_⟩)
  refine (CallV.stp (B := NoB) (K := fun r V' => ∃ x : Sl, r = treV x ∧ SlR V' x m.t) hm.le ((copyT_ok hmc.tre (mayT_light1000 hM)).mono fun r V' ⟨x, h1, h2⟩ => ⟨⟨x, h1, h2.slR⟩, h2.le⟩)).mono ?_
  rintro r V1 ⟨V01, ⟨x, rfl, hx⟩, hS, _⟩
  exact ⟨x, rfl, V01, x, rfl, hx, hS⟩
theorem modHands_ok (hm : ModR V0 V p mb m) (ho : offH m.h = false) : CallV Tryz.prog 27 ⟨[.pointer (some ⟨p, 0, none⟩)]⟩ V fun r V' => ∃ (V0' : View) (x : Sl), r = .slice x.a x.n x.c ∧ SlR V0' x m.h ∧ Mv NoB V0 V V0' V' := by
  refine f27_x ?_
  unfold f27_n
  obtain ⟨s, hs, es, cl, hmc⟩ := hm.ex
  refine br_intro (fun h => by cases h) (fun _ => ⟨_, rfl, hs, bx hmc.box 2 rfl, ?_⟩)
  refine (CallV.stp (B := NoB) (K := fun r V' => ∃ x : Sl, r = .slice x.a x.n x.c ∧ SlR V' x m.h) hm.le ((cloneI_ok hmc.hands (by rw [offH_len ho]; decide)).mono fun r V' ⟨x, h1, h2, h3⟩ => ⟨⟨x, h1, h2⟩, h3⟩)).mono ?_
  rintro r V1 ⟨V01, ⟨x, rfl, hx⟩, hS, _⟩
  exact ⟨x, rfl, V01, x, rfl, hx, hS⟩
theorem bytesN_len (pg : Int → List UInt8) (hpg : ∀ q, (pg q).length = 16) : ∀ l : List Pce, (l.flatMap fun p => (pg p.page).take p.len.toNat).length ≤ 16 * l.length
  | [] => by simp
  | p :: l => by
    have := bytesN_len pg hpg l
    rw [List.flatMap_cons, List.length_append, List.length_cons, List.length_take, hpg]
    omega
theorem flat_snoc {α : Type} {f : Pce → List α} {l : List Pce} {j : Nat} (h : j < l.length) : (l.take (j + 1)).flatMap f = (l.take j).flatMap f ++ f (l.getD j default) := by
  rw [take_snoc h, List.flatMap_append, List.flatMap_singleton]
theorem modBytes_ok (hm : ModR V0 V p mb m) (hO : OkP m) (i : Int) : CallV Tryz.prog 28 ⟨[.pointer (some ⟨p, 0, none⟩), .int .i64 i]⟩ V fun r V' => ∃ x : Sl, r = .slice x.a x.n x.c ∧ SlR V' x (bytesP m i) ∧ V.Le V' := by
  refine f28_x ?_
  unfold f28_n
  obtain ⟨s, hs, es, cl, hmc⟩ := hm.ex
  have h12 := (mayF hO.may).len
  have hsn := hmc.tre.n
  refine joinP_cut (fun q V2 => q.1 = decide (i < 0 ∨ (m.t.length : Int) ≤ i) ∧ V2 = V) (br_intro (fun hb => ⟨?_, rfl⟩) (fun hb => ⟨_, rfl, s, by rw [Addr.add_add]; exact bx hmc.box 1 rfl, ?_, rfl⟩)) ?_
  · have hb : i < 0 := by simpa using hb
    rw [decide_eq_true (.inl hb)]
  · have hb : ¬ i < 0 := by simpa using hb
    exact decide_eq_decide.2 ⟨fun h => .inr (by omega), fun h => by omega⟩
  rintro ⟨q, ⟨⟩⟩ V2 ⟨h1, hV⟩
  have h1 : q = decide (i < 0 ∨ (m.t.length : Int) ≤ i) := h1
  have hV : V2 = V := hV
  subst h1 hV
  dsimp only [unc]
  unfold bytesP
  refine br_intro (fun hb => ?_) (fun hb => ?_)
  · rw [if_pos (of_decide_eq_true hb)]
    exact ⟨⟨none, 0, 0⟩, rfl, SlR.nil _ _ _, View.Le.refl _⟩
  have hb := of_decide_eq_false hb
  rw [if_neg hb]
  obtain ⟨ad, sq, en, ha, hcc, hN⟩ := (hmc.tre.mono hm.le).nodN (i := i.toNat) (by omega)
  refine ⟨_, rfl, s, by rw [Addr.add_add]; exact bx hmc.box 1 rfl, by omega, by omega, ad, ha, _, _, _, sq, en, hcc, fun _ => ?_⟩
  unfold bytesN
  refine br_intro (fun hk => ?_) (fun hk => ?_)
  · rw [if_neg (of_decide_eq_false (not_t hk))]
    exact ⟨⟨none, 0, 0⟩, rfl, SlR.nil _ _ _, View.Le.refl _⟩
  have hk := of_decide_eq_true (not_f hk)
  rw [if_pos hk]
  have h5 := (file_facts ((mayF hO.may).at (show i.toNat < 12 by omega)) hk).2.2.2.2.1
  have hsqn := hN.seqs.n
  let pg : Int → List UInt8 := fun p => pgP m.P ((m.t.getD i.toNat default).seqs.getD p.toNat 0)
  have hpg : ∀ q, (pg q).length = 16 := fun q => pgP_len hO.p16 _
  have hpl := pieces_len 0 (m.t.getD i.toNat default).size
  refine spanPieces_ok.mono ?_
  rintro r V3 ⟨x, rfl, hx, hV3⟩
  have hxn := hx.n
  refine ⟨x, rfl, ?_⟩
  refine loop2 (k := .sl) (l := .int .i64) (fun (w : Sl) (jj : Int) V4 => ∃ (j : Nat), jj = j ∧ j ≤ (piecesI 0 (m.t.getD i.toNat default).size).length ∧ Buf V4 w 5 1 (u8s (((piecesI 0 (m.t.getD i.toNat default).size).take j).flatMap fun p => (pg p.page).take p.len.toNat)) ∧ V3.Le (V4.minus w)) (fun _ (jj : Int) _ => (piecesI 0 (m.t.getD i.toNat default).size).length - jj.toNat)
    ⟨0, rfl, by omega, Buf.nil _ _ _, View.Le.refl _⟩ ?_
  rintro (w : Sl) (jj : Int) V4 ⟨j, rfl, hj, hB, hV4⟩
  refine br_intro (fun hlt => ?_) (fun hge => ?_)
  · have hlt : j < (piecesI 0 (m.t.getD i.toNat default).size).length := by have := of_decide_eq_true hlt; omega
    have hqm : (piecesI 0 (m.t.getD i.toNat default).size).getD j default ∈ piecesI 0 (m.t.getD i.toNat default).size := by rw [getD_at hlt]; exact List.getElem_mem _
    obtain ⟨q1, q2, q3, q4, q5⟩ := pieces_mem hqm
    have hV24 : V2.Le (V4.minus w) := hV3.trans hV4
    obtain ⟨ad2, ha2, hc2⟩ := (hx.mono (hV4.trans (View.minus_le _ _))).pceN hlt
    obtain ⟨ad3, ha3, hc3, _⟩ := (hN.seqs.mono hV24).intN (i := ((piecesI 0 (m.t.getD i.toNat default).size).getD j default).page.toNat) (by omega)
    have hm4 : ModC V0 (V4.minus w) p mb m s hs es cl := ⟨hV24.see _ _ hmc.box, hV24.see _ _ hmc.map, hmc.tre, hmc.hands, hmc.pages⟩
    refine ⟨by omega, by omega, ad2, ha2, _, _, _, hc2, fun _ => ⟨trivial, V4.minus w, View.minus_le _ _, by omega, by omega, ad3, ha3, _, hc3, ?_⟩⟩
    refine (CallV.besideG (K := fun r U' => ∃ z : Sl, r = .slice z.a z.n z.c ∧ SlR U' z (pgP m.P ((m.t.getD i.toNat default).seqs.getD ((piecesI 0 (m.t.getD i.toNat default).size).getD j default).page.toNat 0))) hB ((modPage_ok hm4 (hm.le.trans hV24) _).mono fun r U' ⟨z, h1, h2, h3⟩ => ⟨⟨z, h1, h2⟩, h3⟩)).mono ?_
    rintro r V5 ⟨U, ⟨z, rfl, hz⟩, hU1, hU2, hV45⟩
    have hzn := hz.n; have hzc := hz.c
    have hz16 : (pgP m.P ((m.t.getD i.toNat default).seqs.getD ((piecesI 0 (m.t.getD i.toNat default).size).getD j default).page.toNat 0)).length = 16 := hpg _
    have hdl := bytesN_len pg hpg ((piecesI 0 (m.t.getD i.toNat default).size).take j)
    rw [List.length_take] at hdl
    refine ⟨z, rfl, (View.minus_le _ _).trans hV45, by omega, by omega, by omega, ?_⟩
    rw [show (if z.c = 0 then z.a else Option.map (fun (x : Addr) => x.add 0) z.a) = z.a by rw [map_add_zero, ite_self]]
    have hsub := (hz.take (j := ((piecesI 0 (m.t.getD i.toNat default).size).getD j default).len.toNat) (by omega)).mono hU2
    refine appRow (α := UInt8) (V0 := V5.minus w) (m := (pgP m.P ((m.t.getD i.toNat default).seqs.getD ((piecesI 0 (m.t.getD i.toNat default).size).getD j default).page.toNat 0)).take ((piecesI 0 (m.t.getD i.toNat default).size).getD j default).len.toNat) rfl (hB.mono hV45) (u8s_rep _) hsub (View.Le.refl _) (by simp only [List.length_take]; omega) (by simp only [List.length_take]; omega) ?_
    intro w' V6 cs' g1 g2 g3
    have e5 := repL_u8 g2
    subst e5
    refine ⟨inI64 (by omega) (by omega), ⟨j + 1, by omega, by omega, ?_, hV4.trans (hU1.trans (hU2.trans g3))⟩, by omega⟩
    rw [flat_snoc hlt]; exact g1
  · have hge : j = (piecesI 0 (m.t.getD i.toNat default).size).length := by have := of_decide_eq_false hge; omega
    subst hge
    rw [List.take_length] at hB
    exact ⟨w, rfl, hB.slR (W := V4) (u8s_rep _) (View.Le.refl _), hV3.trans (hV4.trans (View.minus_le _ _))⟩
theorem modNew_ok (hle : V0.Le V) {d : Int} (h1 : 1 ≤ d) (h2 : d ≤ 60) : CallV Tryz.prog 13 ⟨[.int .i64 d]⟩ V fun r V' => ∃ (V0' : View) (p mb : Nat), r = .pointer (some ⟨p, 0, none⟩) ∧ Mv NoB V0 V V0' V' ∧ V.see p = none ∧ V.see mb = none ∧ ModR V0' V' p mb (newP d) := by
  refine f13_x ?_
  unfold f13_n
  refine br_intro (fun h => absurd h (by rw [decide_eq_false (by omega), decide_eq_false (by omega)]; decide)) (fun _ => ?_)
  refine (CallV.stp (B := NoB) (K := fun r V' => ∃ x : Sl, r = treV x ∧ SlR V' x firstT) hle (first_ok.mono fun r V' ⟨x, h1, h2, h3⟩ => ⟨⟨x, h1, h2⟩, h3⟩)).mono ?_
  rintro r V1 ⟨V01, ⟨x, rfl, hx⟩, hS1, hV1⟩
  refine ⟨x, rfl, ?_⟩
  refine (CallV.stp (B := NoB) (K := fun r V' => ∃ x : Sl, r = .slice x.a x.n x.c ∧ SlR V' x newH) hS1.sub (newHand_ok.mono fun r V' ⟨x, h1, h2, h3⟩ => ⟨⟨x, h1, h2⟩, h3⟩)).mono ?_
  rintro r V2 ⟨V02, ⟨z, rfl, hz⟩, hS2, hV2⟩
  refine ⟨z, rfl, fun mb hmb p hp => ?_⟩
  have hfm := View.see_none_of_ge hmb
  have hne : p ≠ mb := by rintro rfl; rw [View.see_put_same] at hp; cases hp
  have hp2 : V2.see p = none := by rw [View.see_put_ne _ _ hne] at hp; exact hp
  have hS12 := hS1.trans hS2
  have hnp : V02.see p = none := see_none_le hS2.sub hp2
  have hnm : V02.see mb = none := see_none_le hS2.sub hfm
  have hS3 : Mv NoB V02 V2 V02 (V2.put mb (.map #[] 0)) := Mv.put _ hS2.sub hnm (.inr hfm)
  have hS4 : Mv NoB V02 (V2.put mb (.map #[] 0)) V02 ((V2.put mb (.map #[] 0)).put p (.cells ⟨[.int .i64 d, .slice x.a x.n x.c, .slice z.a z.n z.c, .map (some mb), .int .i64 0]⟩ 71 (0, 0))) := Mv.put _ hS3.sub hnp (.inr hp)
  refine ⟨V02, p, mb, rfl, (hS12.trans hS3).trans hS4, see_none_le (hV1.trans hV2) hp2, see_none_le (hV1.trans hV2) hfm, hS4.sub, hnp, hnm, hne, x, z, #[], 0, View.see_put_same _ _ _, ?_, hx.mono hS2.base, hz, ?_⟩
  · rw [View.see_put_ne _ _ (fun e => hne e.symm)]; exact View.see_put_same _ _ _
  · exact ⟨fun e he => (by cases he), fun q => rfl⟩
end
end Go.Proofs.YtoogangnldppaaaGreatDoor

/- What calls on names leave: places of Seqs, files that are held. Plain laws. -/
namespace Go.Proofs.YtoogangnldppaaaGreatDoor
open Go
/-- As a file it is the same. -/
def Same1 (a b : Nod) : Prop := a.kind = 1 ∧ a.size = b.size ∧ a.seqs = b.seqs
structure Keep (held : Nat → Prop) (u t : Tre) : Prop where
  len : u.length = t.length
  pos : ∀ i p, (u.getD i default).seqs.getD p 0 = 0 ∨ (u.getD i default).seqs.getD p 0 = (t.getD i default).seqs.getD p 0
  same : ∀ i, held i → kindT t i = 1 → Same1 (u.getD i default) (t.getD i default)
theorem Keep.refl (held : Nat → Prop) (t : Tre) : Keep held t t := ⟨rfl, fun _ _ => .inr rfl, fun _ _ h => ⟨h, rfl, rfl⟩⟩
theorem Keep.trans {held : Nat → Prop} {a b c : Tre} (h : Keep held a b) (k : Keep held b c) : Keep held a c := by
  refine ⟨h.len.trans k.len, fun i p => ?_, fun i hi hk => ?_⟩
  · rcases h.pos i p with e | e
    · exact .inl e
    · rcases k.pos i p with e' | e'
      · exact .inl (e.trans e')
      · exact .inr (e.trans e')
  · obtain ⟨a1, a2, a3⟩ := k.same i hi hk
    obtain ⟨b1, b2, b3⟩ := h.same i hi a1
    exact ⟨b1, b2.trans a2, b3.trans a3⟩
theorem getD_set' {t : Tre} {k j : Nat} {n : Nod} : (t.set k n).getD j default = if j = k ∧ k < t.length then n else t.getD j default := by
  by_cases hk : k < t.length
  · rw [getD_set hk]
    by_cases e : j = k
    · rw [if_pos e, if_pos ⟨e, hk⟩]
    · rw [if_neg e, if_neg (fun h => e h.1)]
  · rw [List.set_eq_of_length_le (by omega), if_neg (fun h => hk h.2)]
theorem Keep.set {held : Nat → Prop} {t : Tre} {k : Nat} {n : Nod} (h1 : ∀ p, n.seqs.getD p 0 = 0 ∨ n.seqs.getD p 0 = (t.getD k default).seqs.getD p 0) (h2 : held k → kindT t k = 1 → Same1 n (t.getD k default)) : Keep held (t.set k n) t := by
  refine ⟨by simp, fun i p => ?_, fun i hi hk => ?_⟩
  · rw [getD_set']
    split
    · rename_i e; rw [e.1]; exact h1 p
    · exact .inr rfl
  · rw [getD_set']
    split
    · rename_i e; rw [e.1] at hi hk ⊢; exact h2 hi hk
    · exact ⟨hk, rfl, rfl⟩
section
variable {held : Nat → Prop}
theorem keep_ent (t : Tre) (d : Nat) (l : List Ent) : Keep held (entT t d l) t := Keep.set (fun _ => .inr rfl) fun _ h => ⟨h, rfl, rfl⟩
theorem kind_ent (t : Tre) (d : Nat) (l : List Ent) (i : Nat) : kindT (entT t d l) i = kindT t i := by
  unfold kindT entT
  rw [getD_set']
  split
  · rename_i e; rw [e.1]
  · rfl
theorem keep_zero {t : Tre} {k : Nat} (h : ¬ (held k ∧ kindT t k = 1)) : Keep held (t.set k Nod.zero) t := Keep.set (fun p => .inl (by simp [Nod.zero])) fun h1 h2 => absurd ⟨h1, h2⟩ h
theorem keep_empty {t : Tre} {k : Nat} (x : Int) (h : kindT t k = 0) : Keep held (t.set k (emptyN x)) t := Keep.set (fun p => .inl (by
    unfold emptyN
    split
    · match p with
      | 0 => rfl
      | 1 => rfl
      | 2 => rfl
      | 3 => rfl
      | 4 => rfl
      | p + 5 => rfl
    · split
      · simp
      · simp [Nod.zero])) fun _ h2 => by rw [h] at h2; cases h2
theorem keep_less {t : Tre} {k : Nat} {hl : List Bool} (h : held k → heldB hl k = true) : Keep held (lessT t k hl) t := by
  unfold lessT
  split
  · exact Keep.set (fun _ => .inr rfl) fun _ h => ⟨h, rfl, rfl⟩
  · rename_i hc
    exact keep_zero fun ⟨h1, h2⟩ => hc ⟨h2, .inr (h h1)⟩
theorem makes_keep {t u : Tre} {p : ByteArray} {k : Int} (h : makesT t p k = .ok u) : Keep held u t := by
  unfold makesT at h
  split at h
  · cases h
  · rename_i d s hp
    obtain ⟨ld, P⟩ := par_of hp
    split at h
    · cases h
    · split at h
      · cases h
      · split at h
        · cases h
        · rename_i hf _
          cases h
          rcases free_spec P.may with h1 | ⟨h1, h2, h3⟩
          · omega
          · exact (keep_empty k (by rw [kind_ent]; exact h3)).trans (keep_ent _ _ _)
theorem unlink_keep {t u : Tre} {p : ByteArray} {hl : List Bool} (hh : ∀ k, held k → heldB hl k = true) (h : unlinkT t p hl = .ok u) : Keep held u t := by
  unfold unlinkT at h
  split at h
  · cases h
  · split at h
    · cases h
    · split at h
      · cases h
      · cases h
        exact (keep_less (hh _)).trans (keep_ent _ _ _)
theorem rmdir_keep {t u : Tre} {p : ByteArray} (h : rmdirT t p = .ok u) : Keep held u t := by
  unfold rmdirT at h
  split at h
  · cases h
  · split at h
    · cases h
    · split at h
      · cases h
      · split at h
        · cases h
        · rename_i hk _
          cases h
          exact (keep_zero (by rw [kind_ent]; rintro ⟨_, h⟩; omega)).trans (keep_ent _ _ _)
theorem link_keep {t u : Tre} {p q : ByteArray} (h : linkT t p q = .ok u) : Keep held u t := by
  unfold linkT at h
  split at h
  · cases h
  · split at h
    · cases h
    · split at h
      · cases h
      · split at h
        · cases h
        · split at h
          · cases h
          · rename_i i _ _ _ d s _ _ _
            cases h
            have e1 : ((entT t d (insE (entsT t d) ⟨s, (i : Int)⟩)).getD i default).seqs = (t.getD i default).seqs ∧ ((entT t d (insE (entsT t d) ⟨s, (i : Int)⟩)).getD i default).size = (t.getD i default).size := by
              unfold entT
              rw [getD_set']
              split
              · rename_i e; rw [e.1]; exact ⟨rfl, rfl⟩
              · exact ⟨rfl, rfl⟩
            refine (Keep.set (fun p => .inr (by rw [e1.1])) fun _ h => ⟨?_, by rw [e1.2], by rw [e1.1]⟩).trans (keep_ent _ _ _)
            rw [kind_ent] at h; exact h
theorem move_keep {t : Tre} {d f i : Nat} {s r : ByteArray} {k : Int} {hl : List Bool} (hh : ∀ k, held k → heldB hl k = true) : Keep held (moveT t d s i f r k hl) t := by
  unfold moveT
  split
  · exact (keep_less (hh _)).trans ((keep_ent _ _ _).trans (keep_ent _ _ _))
  · exact keep_ent _ _ _
theorem rename_keep {t u : Tre} {p q : ByteArray} {hl : List Bool} (hh : ∀ k, held k → heldB hl k = true) (h : renameT t p q hl = .ok u) : Keep held u t := by
  unfold renameT at h
  split at h
  · cases h
  · split at h
    · cases h
    · split at h
      · cases h
      · split at h
        · cases h; exact Keep.refl _ t
        · split at h
          · cases h
          · split at h
            · cases h
            · split at h
              · cases h
              · cases h
                exact (keep_ent _ _ _).trans (move_keep hh)
theorem drop_keep {t u : Tre} {i : Int} (hh : ∀ k : Nat, held k → (k : Int) ≠ i) (h : dropT t i = .ok u) : Keep held u t := by
  unfold dropT at h
  split at h
  · split at h
    · rename_i hc
      cases h
      exact keep_zero fun ⟨h1, _⟩ => hh _ h1 (by omega)
    · cases h
  · cases h
end
theorem heldB_iff {h : List Int} (ho : offH h = false) {k : Nat} (hk : k < 12) : heldB (heldH h) k = decide ((k : Int) ∈ h) := by
  unfold heldB heldH
  rw [if_neg (by rw [ho]; decide), List.getD_eq_getElem?_getD, List.getElem?_eq_getElem (by simpa using hk)]
  simp
/-- A node that some handle has. -/
def HeldN (m : PMod) (k : Nat) : Prop := (k : Int) ∈ m.h
/-- A model that may be, and whose handles are files'. -/
structure OkH (m : PMod) : Prop extends OkP m where
  file : ∀ k, HeldN m k → kindT m.t k = 1
theorem OkH.lt {m : PMod} (h : OkH m) {k : Nat} (hk : HeldN m k) : k < 12 := by
  have := offH_mem h.hands hk; omega
theorem OkH.heldB {m : PMod} (h : OkH m) {k : Nat} (hk : HeldN m k) : heldB (heldH m.h) k = true := by
  rw [heldB_iff h.hands (h.lt hk)]; exact decide_eq_true hk
theorem named_keep {m : PMod} {c : Cal} {u : Tre} (hO : OkH m) (h : namedP m c = .ok u) : Keep (HeldN m) u m.t := by
  have hh : ∀ k, HeldN m k → Go.Proofs.YtoogangnldppaaaGreatDoor.heldB (heldH m.h) k = true := fun k hk => hO.heldB hk
  unfold namedP at h
  repeat' split at h
  · exact makes_keep h
  · exact makes_keep h
  · exact unlink_keep hh h
  · exact rmdir_keep h
  · exact rename_keep hh h
  · exact link_keep h
/-- What is found, and is no directory, is a file. -/
theorem find_kind {t : Tre} {p : ByteArray} {i : Nat} (h : findT t p = .ok i) : kindT t i = 1 ∨ kindT t i = 2 := by
  have hF := mayF (find_may h)
  by_cases hi : i = 0
  · subst hi; exact .inr hF.top
  · obtain ⟨ld, d, s, P, ha⟩ := find_par h hi
    obtain ⟨e, he, _, hn⟩ := atI_mem (l := entsT t d) (s := s) (by omega)
    have hk := (hF.ent he).2.2.2.2.2
    rw [hn, ha] at hk
    have hk : kindT t i ≠ 0 := hk
    have := kind_of (hF.at (find_lt h))
    unfold kindT at hk ⊢
    omega
/-- What is done to a file does not touch others. -/
theorem doneU_kind (k : Nat) (t : Tre) (l : List Tod) (ss : List Int) (hk : k < t.length) (j : Nat) : kindT (doneU k t l ss) j = kindT t j := by
  by_cases e : j = k
  · subst e
    obtain ⟨q, _, h2⟩ := doneU_at j t l ss hk
    unfold kindT; rw [h2]
  · unfold kindT; rw [doneU_ne k e]
theorem set_kind {t : Tre} {k : Nat} {n : Nod} (h : n.kind = (t.getD k default).kind) (j : Nat) : kindT (t.set k n) j = kindT t j := by
  unfold kindT
  rw [getD_set']
  split
  · rename_i e; rw [e.1]; exact h
  · rfl
theorem write_kind {t u : Tre} {d i a : Int} {b : List UInt8} {l : List Tod} (h : writeT t d i a b = .ok (u, l)) (j : Nat) : kindT u j = kindT t j := by
  unfold writeT at h
  split at h
  · cases h
  split at h
  · cases h; rfl
  split at h
  · cases h
  split at h
  · cases h
  · cases h; exact set_kind (by rfl) j
theorem trunc_kind {t u : Tre} {i z : Int} {l : List Tod} (h : truncT t i z = .ok (u, l)) (j : Nat) : kindT u j = kindT t j := by
  unfold truncT at h
  split at h
  · cases h
  split at h
  · cases h
  · cases h; exact set_kind (by rfl) j
/-- Handles stay files'. -/
theorem plans_file {m : PMod} {c : Cal} (hO : OkH m) : ∀ k : Nat, (k : Int) ∈ (plansP m c).h → kindT (plansP m c).t k = 1 := by
  unfold plansP
  cases hd : deedP m c with
  | error e => exact hO.file
  | ok d =>
    show ∀ k : Nat, (k : Int) ∈ d.h → kindT d.t k = 1
    unfold deedP at hd
    split at hd
    · cases hn : namedP m c with
      | error e => rw [hn] at hd; cases hd
      | ok t =>
        rw [hn] at hd; cases hd
        exact fun k hk => ((named_keep hO hn).same k hk (hO.file k hk)).1
    split at hd
    · unfold foundP at hd
      split at hd
      · cases hd
      rename_i i hf
      split at hd
      · cases hd; exact hO.file
      split at hd
      · cases hd
      split at hd
      · cases hd; exact hO.file
      split at hd
      · cases hd
      rename_i hk2
      split at hd
      · cases hd
      · rename_i ho
        cases hd
        intro k hk
        have hk : (k : Int) ∈ _ := hk
        unfold openH at ho
        split at ho
        · cases ho
        split at ho
        · cases ho
        · cases ho
          rcases List.mem_or_eq_of_mem_set hk with h | h
          · exact hO.file k h
          · have e : k = i := by omega
            subst e
            rcases find_kind hf with h1 | h1
            · exact h1
            · exact absurd h1 hk2
    split at hd
    · unfold closesP at hd
      split at hd
      · cases hd
      · rename_i h i hc
        obtain ⟨ho0, _, hi12, ho, hl, _⟩ := close_facts hc
        have hsub : ∀ k : Nat, (k : Int) ∈ h → (k : Int) ∈ m.h := by
          intro k hk
          rw [hl] at hk
          rcases List.mem_or_eq_of_mem_set hk with h | h
          · exact h
          · omega
        split at hd
        · rename_i hcc
          cases hdr : dropT m.t i with
          | error e => rw [hdr] at hd; cases hd
          | ok t =>
            rw [hdr] at hd; cases hd
            intro k hk
            have hk : (k : Int) ∈ h := hk
            refine ((drop_keep (held := fun k => (k : Int) ∈ h) (fun j hj => ?_) hdr).same k hk (hO.file k (hsub k hk))).1
            intro e
            have hj := offH_mem ho hj
            have h1 := hcc.2
            rw [show i.toNat = j by omega, heldB_iff ho (by omega)] at h1
            rename_i hj0
            exact absurd (hj0 : (j : Int) ∈ h) (of_decide_eq_false h1)
        · cases hd; exact fun k hk => hO.file k (hsub k hk)
    split at hd
    · unfold heldP at hd
      split at hd
      · cases hd
      · rename_i i hi
        split at hd
        · cases hw : writeT m.t m.data i c.at_ c.data with
          | error e => rw [hw] at hd; cases hd
          | ok o => obtain ⟨u, l⟩ := o; rw [hw] at hd; cases hd; exact fun k hk => by rw [show kindT _ k = _ from write_kind hw k]; exact hO.file k hk
        split at hd
        · cases hw : truncT m.t i c.at_ with
          | error e => rw [hw] at hd; cases hd
          | ok o => obtain ⟨u, l⟩ := o; rw [hw] at hd; cases hd; exact fun k hk => by rw [show kindT _ k = _ from trunc_kind hw k]; exact hO.file k hk
        split at hd
        · cases hd
        · cases hd; exact hO.file
    split at hd
    · cases hd; exact hO.file
    split at hd
    · cases hd; exact hO.file
    · cases hd
theorem OkH.step {m : PMod} {c : Cal} (hO : OkH m) (hs : m.seq + 80 ≤ 1099511627776) : OkH (doP m c) := by
  obtain ⟨h1, _⟩ := hO.toOkP.step (c := c) hs
  refine ⟨h1, fun k hk => ?_⟩
  have hT := (plans_ok (c := c) hO.toOkP).1
  have h12 := (mayF hT.may).len
  show kindT (doneU _ _ _ _) k = 1
  rw [doneU_kind _ _ _ _ (by have := hT.k12; omega)]
  exact plans_file hO k hk
theorem OkH.new {d : Int} (h1 : 1 ≤ d) (h2 : d ≤ 60) : OkH (newP d) := by
  refine ⟨OkP.new h1 h2, fun k hk => ?_⟩
  have hk : (k : Int) ∈ newH := hk
  unfold newH at hk
  simp at hk
end Go.Proofs.YtoogangnldppaaaGreatDoor

/- Contracts of the reference's calls on names: paths, parents, entries. -/
namespace Go.Proofs.YtoogangnldppaaaGreatDoor
open Go
/-- How far a path is cut: the names so far; the rest is cut the same way. -/
structure CutI (r : List UInt8) (names : List ByteArray) (f i : Nat) : Prop where
  may : names.all mayB = true
  le : f ≤ i
  cut : (i ≤ r.length ∧ (splitS r).map ba = names ++ (splitS (r.drop f)).map ba ∧ 47 ∉ (r.drop f).take (i - f)) ∨ (i = r.length + 1 ∧ (splitS r).map ba = names)
end Go.Proofs.YtoogangnldppaaaGreatDoor

/- Contracts of the reference's calls on names: joined paths, parents, entries. -/
namespace Go.Proofs.YtoogangnldppaaaGreatDoor
open Go
end Go.Proofs.YtoogangnldppaaaGreatDoor

/- Contracts of the reference's calls on names: entries, and what is made. -/
namespace Go.Proofs.YtoogangnldppaaaGreatDoor
open Go
theorem OwnT.call {P : Program} {f : FuncId} {args : Array Value} {V0 V : View} {x : Sl} {t : Tre} {K : Value → View → Prop} (h : OwnT V0 V x t) (hc : CallV P f args (V.minus x) fun r U' => K r U' ∧ (V.minus x).Le U') :
    CallV P f args V fun r V' => ∃ U', K r U' ∧ U'.Le (V'.minus x) ∧ V.Le V' ∧ OwnT V0 V' x t := by
  obtain ⟨cs, hB, _, _⟩ := id h
  refine (CallV.besideG hB hc).mono ?_
  rintro r V' ⟨U', h1, _, h2, h3⟩
  exact ⟨U', h1, h2, h3, h.mono h3⟩
/-- Entries of one's own. -/
def OwnE (V0 V : View) (x : Sl) (l : List Ent) : Prop := ∃ cs, Buf V x 85 (Rep.sz Ent) cs ∧ repL (V.minus x) cs l ∧ V0.Le (V.minus x)
theorem OwnE.nil (V : View) : OwnE V V ⟨none, 0, 0⟩ [] := ⟨[], Buf.nil _ _ _, rfl, View.Le.refl _⟩
theorem OwnE.slR {V0 V : View} {x : Sl} {l : List Ent} (h : OwnE V0 V x l) : SlR V x l ∧ V0.Le V := by
  obtain ⟨cs, h1, h2, h3⟩ := h
  exact ⟨h1.slR h2 (View.minus_le _ _), h3.trans (View.minus_le _ _)⟩
theorem OwnE.row {V0 V : View} {x y : Sl} {l m : List Ent} {C : Sl → View → Prop} (h : OwnE V0 V x l) (hy : SlR V0 y m) (hlen : l.length + m.length ≤ 1000) (hC : ∀ s V', OwnE V0 V' s (l ++ m) → C s V') : apV V 85 2 24 [.string (ba []), .int .i64 0] x (.slice y.a y.n y.c) C := by
  obtain ⟨cs, h1, h2, h3⟩ := h
  exact appRow (α := Ent) rfl h1 h2 (hy.mono h3) h3 (by omega) (by omega) fun s V' cs' a b c => hC s V' ⟨cs', a, b, c⟩
theorem OwnE.one {V0 V : View} {x : Sl} {l : List Ent} {e : Ent} {r : Nat} {C : Sl → View → Prop} (h : OwnE V0 V x l) (hr : V.size ≤ r) (hs : e.name.size ≤ 9223372036854775807) (hi : inI .i64 e.node) (hlen : l.length ≤ 1000) (hC : ∀ s V', OwnE V0 V' s (l ++ [e]) → C s V') :
    apV (V.put r (.cells ⟨[.string e.name, .int .i64 e.node]⟩ 85 (0, 0))) 85 2 24 [.string (ba []), .int .i64 0] x (.slice (some ⟨r, 0, none⟩) 1 1) C := by
  obtain ⟨cs, h1, h2, h3⟩ := h
  have hn := h1.n_eq (α := Ent) h2
  exact app0 (α := Ent) (d := e) rfl h1 h2 ⟨rfl, hs, hi⟩ h3 hr rfl (by omega) (by omega) fun s V' cs' a b c => hC s V' ⟨cs', a, b, c⟩
end Go.Proofs.YtoogangnldppaaaGreatDoor

/- Contracts of the reference's calls on names: made, unlinked, removed, linked, dropped. -/
namespace Go.Proofs.YtoogangnldppaaaGreatDoor
open Go
end Go.Proofs.YtoogangnldppaaaGreatDoor

/- Contracts of the reference's calls on names: unlinked, removed, linked, dropped. -/
namespace Go.Proofs.YtoogangnldppaaaGreatDoor
open Go
end Go.Proofs.YtoogangnldppaaaGreatDoor

/- Contracts of the reference's calls on names: inside, renamed; TreeForms. -/
namespace Go.Proofs.YtoogangnldppaaaGreatDoor
open Go
end Go.Proofs.YtoogangnldppaaaGreatDoor

/- The contract of the reference's Rename. -/
namespace Go.Proofs.YtoogangnldppaaaGreatDoor
open Go
end Go.Proofs.YtoogangnldppaaaGreatDoor

/- Contracts of the reference's model: page, names, looks. -/
namespace Go.Proofs.YtoogangnldppaaaGreatDoor
open Go
structure RefC (V0 V : View) (q : Nat) (m : PMod) (s hs : Sl) (bs : List Value) (B : List (List UInt8)) : Prop where
  box : V.see q = some (.cells ⟨[.int .i64 m.data, .slice s.a s.n s.c, .slice hs.a hs.n hs.c, .int .i64 m.seq] ++ bs⟩ 56 (0, 0))
  tre : SlR V0 s m.t
  hands : SlR V0 hs m.h
  rows : repL V0 bs B
  len : B.length = 60
  page : ∀ i p, i < 12 → p < 5 → (m.t.getD i default).seqs.getD p 0 ≠ 0 → B.getD (i * 5 + p) [] = pgP m.P ((m.t.getD i default).seqs.getD p 0)
/-- The reference's model lies in a box of its own; it holds what the program's one holds. -/
structure RefR (V0 V : View) (q : Nat) (m : PMod) : Prop where
  le : V0.Le V
  nq : V0.see q = none
  ex : ∃ (s hs : Sl) (bs : List Value) (B : List (List UInt8)), RefC V0 V q m s hs bs B
theorem RefC.stp {B : Nat → Prop} {V0 V V0' V' : View} {q : Nat} {m : PMod} {s hs : Sl} {bs : List Value} {C : List (List UInt8)} (h : RefC V0 V q m s hs bs C) (k : Mv B V0 V V0' V') (h1 : ¬ B q) : RefC V0' V' q m s hs bs C :=
  ⟨k.rest _ _ h1 h.box, h.tre.mono k.base, h.hands.mono k.base, h.rows.mono k.base, h.len, h.page⟩
theorem RefC.grow {V0 V V0' V' : View} {q : Nat} {m : PMod} {s hs : Sl} {bs : List Value} {C : List (List UInt8)} (h : RefC V0 V q m s hs bs C) (k : V0.Le V0') (hV : V.Le V') : RefC V0' V' q m s hs bs C :=
  ⟨hV.see _ _ h.box, h.tre.mono k, h.hands.mono k, h.rows.mono k, h.len, h.page⟩
theorem RefR.stp {B : Nat → Prop} {V0 V V0' V' : View} {q : Nat} {m : PMod} (h : RefR V0 V q m) (k : Mv B V0 V V0' V') (h1 : ¬ B q) : RefR V0' V' q m := by
  obtain ⟨s, hs, bs, C, hc⟩ := h.ex
  exact ⟨k.sub, k.apart _ h.nq (by rw [hc.box]; simp), s, hs, bs, C, hc.stp k h1⟩
theorem doP_eq {m : PMod} {c : Cal} {d : Dee} (h : plansP m c = d) (hl : d.todo = []) : doP m c = ⟨m.data, d.t, d.h, m.P, m.seq⟩ ∧ writesP m c = !decide (d.t = m.t) := by
  unfold doP writesP
  rw [h, hl]
  refine ⟨?_, rfl⟩
  show (⟨m.data, d.t, d.h, m.P, m.seq + 0⟩ : PMod) = _
  rw [Int.add_zero]
theorem plansP_err {m : PMod} {c : Cal} {e : Int} (h : deedP m c = .error e) : plansP m c = ⟨m.t, m.h, [], Ans.e e⟩ := by unfold plansP; rw [h]
theorem plansP_of {m : PMod} {c : Cal} {d : Dee} (h : deedP m c = .ok d) : plansP m c = d := by unfold plansP; rw [h]
theorem doP_err {m : PMod} {c : Cal} {e : Int} (h : deedP m c = .error e) : doP m c = m ∧ writesP m c = false ∧ (plansP m c).a = Ans.e e := by
  have hp := plansP_err h
  obtain ⟨h1, h2⟩ := doP_eq hp rfl
  exact ⟨h1, by rw [h2]; simp, by rw [hp]⟩
theorem repL_str {W W' : View} : ∀ {cs : List Value} {l : List ByteArray}, repL W cs l → repL W' cs l
  | _, [], h => h
  | _, _ :: _, ⟨vs, us, e, h1, h2⟩ => ⟨vs, us, e, h1, repL_str h2⟩
section
variable {V0 V : View} {q : Nat} {m : PMod} {c : Cal} {y : Sl} {s hs : Sl} {bs : List Value} {B : List (List UInt8)}
theorem RefC.bsl (h : RefC V0 V q m s hs bs B) : bs.length = 60 := by
  have := h.rows.len
  rw [h.len] at this
  exact this
theorem RefC.tree {u : Tre} (h : RefC V0 V q m s hs bs B) (hle : V0.Le V) (hn : V0.see q = none) {x : Sl} (hx : SlR V0 x u) (hp : ∀ i p, (u.getD i default).seqs.getD p 0 = 0 ∨ (u.getD i default).seqs.getD p 0 = (m.t.getD i default).seqs.getD p 0) :
    canSet V ((⟨q, 0, none⟩ : Addr).add 1) 1 ∧ RefC V0 (V.sets ((⟨q, 0, none⟩ : Addr).add 1) [.slice x.a x.n x.c]) q ⟨m.data, u, m.h, m.P, m.seq⟩ x hs bs B ∧ Mv (fun i => i = q) V0 V V0 (V.sets ((⟨q, 0, none⟩ : Addr).add 1) [.slice x.a x.n x.c]) := by
  have hb := h.bsl
  rw [bxe h.box]
  refine ⟨bxc h.box 1 1 (by simp), ⟨View.see_put_same _ _ _, hx, h.hands, h.rows, h.len, fun i p hi hp5 hne => ?_⟩, Mv.put _ hle hn (.inl rfl)⟩
  rcases hp i p with e | e
  · exact absurd e hne
  · show B.getD _ [] = pgP m.P ((u.getD i default).seqs.getD p 0)
    rw [e]
    exact h.page i p hi hp5 (by rw [← e]; exact hne)
end
end Go.Proofs.YtoogangnldppaaaGreatDoor

/- Contracts of the reference's model: looks, todo. -/
namespace Go.Proofs.YtoogangnldppaaaGreatDoor
open Go
section
variable {V0 V : View} {q : Nat} {m : PMod} {c : Cal} {y : Sl} {s hs : Sl} {bs : List Value} {B : List (List UInt8)}
end
end Go.Proofs.YtoogangnldppaaaGreatDoor

/- Contracts of the reference's model: pages are written. -/
namespace Go.Proofs.YtoogangnldppaaaGreatDoor
open Go
section
variable {V0 V : View} {q : Nat} {m : PMod} {y x0 : Sl} {s hs : Sl} {bs : List Value} {B : List (List UInt8)} {u : Tre} {l : List Tod}
end
end Go.Proofs.YtoogangnldppaaaGreatDoor

/- Contracts of the reference's model: calls on bytes; a call. -/
namespace Go.Proofs.YtoogangnldppaaaGreatDoor
open Go
section
variable {V0 V : View} {q : Nat} {m : PMod} {c : Cal} {y : Sl} {s hs : Sl} {bs : List Value} {B : List (List UInt8)}
end
end Go.Proofs.YtoogangnldppaaaGreatDoor

/- Contracts of the reference's model: a call; begun anew; a file's bytes; a new one; what is compared. -/
namespace Go.Proofs.YtoogangnldppaaaGreatDoor
open Go
/-! ### bytes in a row -/
/-! ### begun anew -/
section
variable {V0 V : View} {q : Nat} {m : PMod} {c : Cal} {y : Sl} {s hs : Sl} {bs : List Value} {B : List (List UInt8)}
theorem sameI_ok {s z : Sl} {l k : List Int} {V : View} (h1 : SlR V s l) (h2 : SlR V z k) : CallV Tryz.prog 26 ⟨[.slice s.a s.n s.c, .slice z.a z.n z.c]⟩ V fun r V' => r = .bool (decide (l = k)) ∧ V' = V := by
  refine f26_x ?_
  unfold f26_n
  have hn1 := h1.n; have hn2 := h2.n; have hl := h1.lim
  refine br_intro (fun hb => ⟨?_, rfl⟩) (fun hb => ?_)
  · have hb := of_decide_eq_false (not_t hb)
    rw [decide_eq_false]
    rintro rfl; omega
  have hb := of_decide_eq_true (not_f hb)
  refine loop1 (k := .int .i64) (fun (jj : Int) V' => V' = V ∧ ∃ j : Nat, jj = j ∧ j ≤ l.length ∧ ∀ i, i < j → l.getD i 0 = k.getD i 0) (fun (jj : Int) _ => l.length - jj.toNat) ⟨rfl, 0, rfl, by omega, fun i hi => by omega⟩ ?_
  rintro (jj : Int) V' ⟨rfl, j, rfl, hj, heq⟩
  refine br_intro (fun hlt => ?_) (fun hge => ?_)
  · have hlt : j < l.length := by have := of_decide_eq_true hlt; omega
    obtain ⟨a1, b1, c1, _⟩ := h1.intN hlt
    obtain ⟨a2, b2, c2, _⟩ := h2.intN (i := j) (by omega)
    refine ⟨trivial, V', View.Le.refl _, by omega, by omega, a1, b1, _, c1, by omega, by omega, a2, b2, _, c2, br_intro (fun hc => ⟨?_, rfl⟩) (fun hc => ⟨inI64 (by omega) (by omega), ⟨rfl, j + 1, by omega, by omega, fun i hi => ?_⟩, by omega⟩)⟩
    · have hc := of_decide_eq_false (not_t hc)
      rw [decide_eq_false]
      rintro rfl; exact hc rfl
    · by_cases e : i = j
      · subst e; exact of_decide_eq_true (not_f hc)
      · exact heq i (by omega)
  · have hge : j = l.length := by have := of_decide_eq_false hge; omega
    subst hge
    refine ⟨?_, rfl⟩
    rw [decide_eq_true]
    apply List.ext_getElem
    · omega
    · intro i a b
      have := heq i a
      rw [getD_at0 a, getD_at0 b] at this
      exact this
end
end Go.Proofs.YtoogangnldppaaaGreatDoor

/- Contracts of the reference's model: a call; a new one. -/
namespace Go.Proofs.YtoogangnldppaaaGreatDoor
open Go
section
variable {V0 V : View} {q : Nat} {m : PMod} {c : Cal} {y : Sl}
end
end Go.Proofs.YtoogangnldppaaaGreatDoor

/- The laws of stage 22: how heavy calls are; a model that every program must know. -/
namespace Go.Proofs.YtoogangnldppaaaGreatDoor
open Go
theorem heavy22_ok {s : Sl} {l : List Cal} {V : View} (h : SlR V s l) : CallV Tryz.prog 11 ⟨[.slice s.a s.n s.c]⟩ V fun r V' => ∃ x : Int, r = .int .i64 x ∧ 0 ≤ x ∧ x ≤ 151 ∧ (x = 0 → l.length ≤ 150 ∧ ∀ c ∈ l, c.data.length ≤ 300) ∧ V' = V := by
  refine f11_x ?_
  unfold f11_n
  have hn := h.n
  refine loop1 (k := .int .i64) (fun (j : Int) V' => V' = V ∧ ∃ i : Nat, j = i ∧ i ≤ l.length ∧ i ≤ 150 ∧ ∀ k, k < i → (l.getD k default).data.length ≤ 300) (fun (j : Int) _ => l.length - j.toNat) ⟨rfl, 0, rfl, by omega, by omega, fun k hk => by omega⟩ ?_
  rintro (j : Int) V' ⟨rfl, i, rfl, hi, h150, hall⟩
  have hw : IntKind.wrap .i64 ((i : Int) + 1) = (i : Int) + 1 := wrap_of_in (inI64 (by omega) (by omega))
  refine br_intro (fun hlt => ?_) (fun hge => ?_)
  · have hlt : i < l.length := by have := of_decide_eq_true hlt; omega
    obtain ⟨ad, y, ha, hc, hC⟩ := h.calN hlt
    have hyn := hC.data.n
    refine ⟨by omega, by omega, ad, ha, _, _, _, _, _, _, y, hc, fun _ => ?_⟩
    refine joinP_cut (fun q V1 => (q.1 = false → i < 150 ∧ (l.getD i default).data.length ≤ 300) ∧ V1 = V') (br_intro (fun hb => ⟨fun h => (by cases h), rfl⟩) (fun hb => ⟨fun hf => ?_, rfl⟩)) ?_
    · have hb := of_decide_eq_false hb
      have hf : (bif decide ((300 : Int) < IntKind.wrap .i64 (((l.getD i default).path.size : Int) + ((l.getD i default).to_.size : Int))) then true else decide ((300 : Int) < (y.n : Int))) = false := hf
      refine ⟨by omega, ?_⟩
      cases hd : decide ((300 : Int) < IntKind.wrap .i64 (((l.getD i default).path.size : Int) + ((l.getD i default).to_.size : Int))) with
      | true => rw [hd] at hf; cases hf
      | false =>
        rw [hd] at hf
        have := of_decide_eq_false hf
        omega
    rintro ⟨q, ⟨⟩⟩ V1 ⟨h1, hV⟩
    have hV : V1 = V' := hV
    subst hV
    dsimp only [unc]
    rw [hw]
    refine br_intro (fun hq => ⟨_, rfl, by omega, by omega, fun h0 => by omega, rfl⟩) (fun hq => ?_)
    obtain ⟨h2, h3⟩ := h1 hq
    refine ⟨⟨rfl, i + 1, by omega, by omega, by omega, fun k hk => ?_⟩, by omega⟩
    by_cases e : k = i
    · subst e; exact h3
    · exact hall k (by omega)
  · have hge : i = l.length := by have := of_decide_eq_false hge; omega
    subst hge
    refine ⟨0, rfl, by omega, by omega, fun _ => ⟨by omega, fun c hc => ?_⟩, rfl⟩
    obtain ⟨k, hk, rfl⟩ := List.getElem_of_mem hc
    have := hall k hk
    rw [getD_at hk] at this
    exact this
/-! ### the known model -/
def pA : ByteArray := ba [47, 97]
def TA : Tre := (entT firstT 0 [⟨ba [97], 1⟩]).set 1 (emptyN 1)
def cC : Cal := ⟨1, pA, ba [], 0, 0, 0, []⟩
def cO : Cal := ⟨9, pA, ba [], 0, 0, 0, []⟩
def cW : Cal := ⟨12, ba [], ba [], 0, 2, 0, [120, 121]⟩
def cR : Cal := ⟨11, ba [], ba [], 0, 0, 9, []⟩
def cS : Cal := ⟨14, ba [], ba [], 0, 0, 0, []⟩
def cX : Cal := ⟨99, ba [], ba [], 0, 0, 0, []⟩
theorem parA : Par firstT pA [] 0 (ba [97]) := ⟨mayT_first, by decide, rfl, by decide⟩
theorem ta_eq : makesT firstT pA 1 = .ok TA := by
  unfold makesT
  rw [parA.eq]
  have h1 : atI (entsT firstT 0) (ba [97]) = -1 := by decide
  have h2 : (entsT firstT 0).length = 0 := by decide
  show (if 0 ≤ atI (entsT firstT 0) (ba [97]) then _ else _) = _
  rw [h1, if_neg (by decide), free_first, if_neg (by decide), h2, if_neg (by decide)]
  rfl
theorem plan1 : plansP (newP 5) cC = ⟨TA, newH, [], Ans.e 0⟩ := by
  refine plansP_of ?_
  unfold deedP
  rw [if_pos (by decide)]
  have : namedP (newP 5) cC = .ok TA := by
    unfold namedP
    rw [if_pos (by decide)]
    exact ta_eq
  rw [this]; rfl
def m1 : PMod := ⟨5, TA, newH, fun _ => none, 0⟩
theorem do1 : doP (newP 5) cC = m1 := (doP_eq plan1 rfl).1
theorem ok1 : OkH m1 := by rw [← do1]; exact (OkH.new (by decide) (by decide)).step (by decide)
def h1A : List Int := [1, -1, -1, -1]
theorem findA : findT TA pA = .ok 1 := by
  have P : Par TA pA [] 0 (ba [97]) := ⟨ok1.may, by decide, rfl, by decide⟩
  exact P.found (by decide)
theorem plan2 : plansP m1 cO = ⟨TA, h1A, [], Ans.e 0⟩ := by
  refine plansP_of ?_
  unfold deedP
  rw [if_neg (by decide), if_pos (by decide)]
  unfold foundP
  rw [show m1.t = TA from rfl, show cO.path = pA from rfl, findA]
  show (if cO.kind = 7 then _ else _) = _
  rw [if_neg (by decide), if_neg (by decide), if_neg (by decide), if_neg (by decide)]
  have : openH m1.h ((1 : Nat) : Int) = .ok (h1A, 0) := rfl
  rw [this]; rfl
def m2 : PMod := ⟨5, TA, h1A, fun _ => none, 0⟩
theorem do2 : doP m1 cO = m2 := (doP_eq plan2 rfl).1
theorem ok2 : OkH m2 := by rw [← do2]; exact ok1.step (by decide)
def tdA : Tod := ⟨1, 0, 0, 16, 2, [120, 121]⟩
def TB : Tre := TA.set 1 { TA.getD 1 default with size := 4 }
theorem fileA {t : Tre} (h : mayT t = true) (hl : t.length = 12) (hk : kindT t 1 = 1) : fileQ t 1 = true := by
  unfold fileQ
  rw [h, Bool.true_and]
  exact decide_eq_true ⟨by decide, by omega, hk⟩
theorem writeA : writeT TA 5 1 2 [120, 121] = .ok (TB, [tdA]) := by
  have hf : fileQ TA 1 = true := fileA ok1.may (by decide) (by decide)
  unfold writeT
  rw [hf, if_neg (by decide), if_neg (by decide), if_neg (by decide)]
  have h1 : usedT TA = 0 := by decide
  have h2 : moreN (TA.getD 1 default) 2 2 = 1 := by decide
  rw [h1]
  show (if (5 : Int) < ((0 : Nat) : Int) + ((moreN (TA.getD 1 default) 2 2 : Nat) : Int) then _ else _) = _
  rw [h2, if_neg (by decide)]
  rfl
theorem plan3 : plansP m2 cW = ⟨TB, h1A, [tdA], ⟨0, 0, 2, 0, 0, [], []⟩⟩ := by
  refine plansP_of ?_
  unfold deedP
  rw [if_neg (by decide), if_neg (by decide), if_neg (by decide), if_pos (by decide)]
  unfold heldP
  have : ofH m2.h cW.hand = .ok 1 := rfl
  rw [this]
  show (if cW.kind = 12 then _ else _) = _
  rw [if_pos (by decide), show writeT m2.t m2.data 1 cW.at_ cW.data = .ok (TB, [tdA]) from writeA]
  rfl
def TC : Tre := TB.set 1 { TB.getD 1 default with seqs := [1, 0, 0, 0, 0] }
def PC : Int → Option (List UInt8) := putsP (fun _ => none) 0 [tdA]
def m3 : PMod := ⟨5, TC, h1A, PC, 1⟩
theorem do3 : doP m2 cW = m3 := by
  unfold doP
  rw [plan3]
  rfl
theorem ok3 : OkH m3 := by rw [← do3]; exact ok2.step (by decide)
theorem plan4 : plansP m3 cR = ⟨TC, h1A, [], ⟨0, 0, 4, 0, 0, [0, 0, 120, 121], []⟩⟩ := by
  refine plansP_of ?_
  unfold deedP
  rw [if_neg (by decide), if_neg (by decide), if_neg (by decide), if_pos (by decide)]
  unfold heldP
  have : ofH m3.h cR.hand = .ok 1 := rfl
  rw [this]
  show (if cR.kind = 12 then _ else _) = _
  rw [if_neg (by decide), if_neg (by decide)]
  have hr : readI m3.t 1 cR.at_ cR.len = .ok [⟨0, 0, 4⟩] := by
    have hf : fileQ m3.t 1 = true := fileA ok3.may (by decide) (by decide)
    unfold readI
    rw [if_neg (by rw [hf]; decide)]
    rfl
  rw [hr]
  rfl
def m4 : PMod := m3
theorem do4 : doP m3 cR = m3 := (doP_eq plan4 rfl).1
theorem plan5 : writesP m3 cS = false := by
  have : plansP m3 cS = ⟨TC, h1A, [], Ans.e 0⟩ := by
    refine plansP_of ?_
    unfold deedP
    rw [if_neg (by decide), if_neg (by decide), if_neg (by decide), if_neg (by decide), if_pos (by decide)]
    rfl
  unfold writesP
  rw [this]
  show (false || !decide (TC = TC)) = false
  simp
theorem plan6 : (plansP m3 cX).a = Ans.e 1 := by
  refine (doP_err ?_).2.2
  unfold deedP
  rw [if_neg (by decide), if_neg (by decide), if_neg (by decide), if_neg (by decide), if_neg (by decide), if_neg (by decide)]
theorem calR_of {W : View} {c : Cal} (h1 : inI .i64 c.kind) (h2 : c.path.size ≤ 100) (h3 : c.to_.size ≤ 100) (h4 : inI .i64 c.hand) (h5 : inI .i64 c.at_) (h6 : inI .i64 c.len) (h7 : c.data = []) : CalR W ⟨none, 0, 0⟩ c :=
  ⟨h1, by omega, by omega, h4, h5, h6, by rw [h7]; exact SlR.nil _ _ _⟩
theorem awake22_ok {V : View} (hg : Glo V) : CallV Tryz.prog 12 ⟨[]⟩ V fun r V' => r = .bool true ∧ V.Le V' := by
  refine f12_x (_u := ()) ?_
  unfold f12_n
  have small : ∀ n : Int, 0 ≤ n → n ≤ 1000 → inI .i64 n := fun n h1 h2 => inI64 (by omega) (by omega)
  have z := small 0 (by decide) (by decide)
  refine (modNew_ok (View.Le.refl V) (d := 5) (by decide) (by decide)).mono ?_
  rintro r V1 ⟨V01, p, mb, rfl, hS1, hp0, hmb0, hm1⟩
  have hO1 : OkH (newP 5) := OkH.new (by decide) (by decide)
  refine ⟨_, rfl, (modDo_ok (c := cC) (y := ⟨none, 0, 0⟩) hm1 hO1.toOkP (by decide) (calR_of (small 1 (by decide) (by decide)) (by decide) (by decide) z z z rfl) (hg.mono hS1.base)).mono ?_⟩
  rintro r V2 ⟨V02, hS2, hm2, x, y, rfl, hx, hy⟩
  rw [do1] at hm2
  rw [plan1] at *
  refine ⟨_, _, _, _, _, x, y, rfl, fun _ => (modDo_ok (c := cO) (y := ⟨none, 0, 0⟩) hm2 ok1.toOkP (by decide) (calR_of (small 9 (by decide) (by decide)) (by decide) (by decide) z z z rfl) (hg.mono (hS1.base.trans hS2.base))).mono ?_⟩
  rintro r V3 ⟨V03, hS3, hm3, x3, y3, rfl, hx3, hy3⟩
  rw [do2] at hm3
  rw [plan2] at *
  refine ⟨_, _, _, _, _, x3, y3, rfl, fun _ b hb => ?_⟩
  have hfr := View.see_none_of_ge hb
  refine ⟨_, _, View.see_put_same _ _ _, ?_⟩
  rw [View.put_put]
  have hn3 : V03.see b = none := see_none_le hm3.le hfr
  have hSb : Mv (fun i => i = p ∨ i = mb) V03 V3 (V03.put b (.cells ⟨u8s [120, 121]⟩ 5 (2, 3))) (V3.put b (.cells ⟨u8s [120, 121]⟩ 5 (2, 3))) := Mv.new _ hm3.le hfr
  have hbp : p ≠ b := by
    rintro rfl
    obtain ⟨s, hs, es, cl, hc⟩ := hm3.ex
    rw [hc.box] at hfr; cases hfr
  have hbm : mb ≠ b := by
    rintro rfl
    obtain ⟨s, hs, es, cl, hc⟩ := hm3.ex
    rw [hc.map] at hfr; cases hfr
  have hSb' : Mv NoB V03 V3 (V03.put b (.cells ⟨u8s [120, 121]⟩ 5 (2, 3))) (V3.put b (.cells ⟨u8s [120, 121]⟩ 5 (2, 3))) := Mv.new _ hm3.le hfr
  have hm3b := hm3.stp hSb' id id
  have hcW : CalR (V03.put b (.cells ⟨u8s [120, 121]⟩ 5 (2, 3))) ⟨some ⟨b, 0, none⟩, 2, 2⟩ cW := by
    refine ⟨small 12 (by decide) (by decide), by decide, by decide, z, small 2 (by decide) (by decide), z, ?_⟩
    refine ⟨rfl, Nat.le_refl _, (show (2 : Nat) ≤ 9223372036854775807 by decide), fun i hi => ?_⟩
    have hi : i < 2 := hi
    refine ⟨⟨b, 0, none⟩, [.int .u8 (([120, 121] : List UInt8).getD i 0).toNat], rfl, cellsAt_one.2 ?_, ?_⟩
    · rw [addr0_add]
      refine cell_of_see (View.see_put_same _ _ _) ?_
      match i, hi with
      | 0, _ => rfl
      | 1, _ => rfl
    · match i, hi with
      | 0, _ => rfl
      | 1, _ => rfl
  refine (modDo_ok (c := cW) (y := ⟨some ⟨b, 0, none⟩, 2, 2⟩) hm3b ok2.toOkP (by decide) hcW (hg.mono (hS1.base.trans (hS2.base.trans (hS3.base.trans hSb'.base))))).mono ?_
  rintro r V4 ⟨V04, hS4, hm4, x4, y4, rfl, hx4, hy4⟩
  rw [do3] at hm4
  rw [plan3] at *
  have hg4 : Glo V04 := hg.mono (hS1.base.trans (hS2.base.trans (hS3.base.trans (hSb'.base.trans hS4.base))))
  refine ⟨_, _, _, _, _, x4, y4, rfl, fun _ => (modDo_ok (c := cR) (y := ⟨none, 0, 0⟩) hm4 ok3.toOkP (by decide) (calR_of (small 11 (by decide) (by decide)) (by decide) (by decide) z z (small 9 (by decide) (by decide)) rfl) hg4).mono ?_⟩
  rintro r V5 ⟨V05, hS5, hm5, x5, y5, rfl, hx5, hy5⟩
  rw [do4] at hm5
  rw [plan4] at *
  have hg5 := hg4.mono hS5.base
  have hVV : V.Le V5 := by
    have h1 : V.Le V05 := hS1.base.trans (hS2.base.trans (hS3.base.trans (hSb'.base.trans (hS4.base.trans hS5.base))))
    exact h1.trans hS5.sub
  refine ⟨_, _, _, _, _, x5, y5, rfl, fun _ => ?_⟩
  refine joinP_cut (fun q V6 => q.1 = true ∧ V.Le V6) (br_intro (fun _ => ⟨ba [0, 0, 120, 121], u8_row (hx5.mono hS5.sub), br_intro (fun _ => ?_) (fun h => absurd h (by decide))⟩) (fun h => absurd h (by decide))) ?_
  · refine (modWrites_ok (c := cS) (y := ⟨none, 0, 0⟩) hm5 ok3.toOkP (calR_of (small 14 (by decide) (by decide)) (by decide) (by decide) z z z rfl) hg5).mono ?_
    rintro r V6 ⟨rfl, V06, hS6⟩
    have hm6 := hm5.stp hS6 id id
    rw [plan5]
    refine ⟨_, rfl, br_intro (fun _ => ?_) (fun h => absurd h (by decide))⟩
    refine (modDo_ok (c := cX) (y := ⟨none, 0, 0⟩) hm6 ok3.toOkP (by decide) (calR_of (small 99 (by decide) (by decide)) (by decide) (by decide) z z z rfl) (hg5.mono hS6.base)).mono ?_
    rintro r V7 ⟨V07, hS7, hm7, x7, y7, rfl, _, _⟩
    refine ⟨_, _, _, _, _, x7, y7, rfl, ?_, ?_⟩
    · rw [plan6]; rfl
    · have h1 : V.Le V07 := hS1.base.trans (hS2.base.trans (hS3.base.trans (hSb'.base.trans (hS4.base.trans (hS5.base.trans (hS6.base.trans hS7.base))))))
      exact h1.trans hS7.sub
  · rintro ⟨q, ⟨⟩⟩ V6 ⟨h1, hV⟩
    have h1 : q = true := h1
    subst h1
    exact ⟨rfl, hV⟩
end Go.Proofs.YtoogangnldppaaaGreatDoor

/- CallPlays; CallNil. -/
namespace Go.Proofs.YtoogangnldppaaaGreatDoor
open Go
theorem awake22J {V V0 : View} (hle : V0.Le V) (hg : Glo V0) {Q : Bool → View → Prop} (hQ : ∀ V', V0.Le V' → Q true V') : CallV Tryz.prog 12 ⟨[]⟩ V fun r V' => ∃ x : Bool, r = .bool x ∧ Q x V' :=
  (awake22_ok (hg.mono hle)).mono fun _ V' ⟨h1, h2⟩ => ⟨true, h1, hQ V' (hle.trans h2)⟩
/-- Both models, side by side. -/
structure Both (V0 V : View) (p mb q : Nat) (m : PMod) : Prop where
  mod : ModR V0 V p mb m
  ref : RefR V0 V q m
  pq : p ≠ q
  mq : mb ≠ q
theorem Both.stp {B : Nat → Prop} {V0 V V0' V' : View} {p mb q : Nat} {m : PMod} (h : Both V0 V p mb q m) (k : Mv B V0 V V0' V') (h1 : ¬ B p) (h2 : ¬ B mb) (h3 : ¬ B q) : Both V0' V' p mb q m := ⟨h.mod.stp k h1 h2, h.ref.stp k h3, h.pq, h.mq⟩
theorem NoB.no (i : Nat) : ¬ NoB i := id
theorem Mv.nob {V0 V V0' V' : View} (h : Mv NoB V0 V V0' V') : V.Le V' := h.le fun i hi => hi.elim
end Go.Proofs.YtoogangnldppaaaGreatDoor

/- CallLooks. -/
namespace Go.Proofs.YtoogangnldppaaaGreatDoor
open Go
end Go.Proofs.YtoogangnldppaaaGreatDoor

/- CallSpace. -/
namespace Go.Proofs.YtoogangnldppaaaGreatDoor
open Go
theorem Keep.no {held : Nat → Prop} {u t : Tre} (h : Keep held u t) : Keep (fun _ => False) u t := ⟨h.len, h.pos, fun _ h => h.elim⟩
end Go.Proofs.YtoogangnldppaaaGreatDoor

/- CallRestarts. -/
namespace Go.Proofs.YtoogangnldppaaaGreatDoor
open Go
end Go.Proofs.YtoogangnldppaaaGreatDoor

/- CallLists. -/
namespace Go.Proofs.YtoogangnldppaaaGreatDoor
open Go
end Go.Proofs.YtoogangnldppaaaGreatDoor

/- What is written is read; plain. -/
namespace Go.Proofs.YtoogangnldppaaaGreatDoor
open Go
end Go.Proofs.YtoogangnldppaaaGreatDoor

/- A file of one's own, beside others; plain. -/
namespace Go.Proofs.YtoogangnldppaaaGreatDoor
open Go
/-- What is asked of a model behind the write. -/
structure HasIt (m : PMod) (a : Int) (b : List UInt8) : Prop where
  kind : kindT m.t 1 = 1
  read : readPg (fun p => pgP m.P ((m.t.getD 1 default).seqs.getD p.toNat 0)) (piecesI a (cutI (m.t.getD 1 default).size a b.length)) = b
/-- What stays of a file that a handle has. -/
structure Stay (m3 m : PMod) : Prop where
  ok : OkH m
  h : m.h = m3.h
  P : m.P = m3.P
  seq : m.seq = m3.seq
  same : Same1 (m.t.getD 1 default) (m3.t.getD 1 default)
theorem stay_plan {m : PMod} {c : Cal} (hO : OkH m) (h1 : HeldN m 1) (hk : ¬ (9 ≤ c.kind ∧ c.kind ≤ 13)) : (plansP m c).todo = [] ∧ (plansP m c).h = m.h ∧ Same1 ((plansP m c).t.getD 1 default) (m.t.getD 1 default) := by
  have hs : Same1 (m.t.getD 1 default) (m.t.getD 1 default) := ⟨hO.file 1 h1, rfl, rfl⟩
  unfold plansP
  cases hd : deedP m c with
  | error e => exact ⟨rfl, rfl, hs⟩
  | ok d =>
    show d.todo = [] ∧ d.h = m.h ∧ Same1 (d.t.getD 1 default) (m.t.getD 1 default)
    unfold deedP at hd
    split at hd
    · cases hn : namedP m c with
      | error e => rw [hn] at hd; cases hd
      | ok t => rw [hn] at hd; cases hd; exact ⟨rfl, rfl, (named_keep hO hn).same 1 h1 (hO.file 1 h1)⟩
    split at hd
    · unfold foundP at hd
      split at hd
      · cases hd
      split at hd
      · cases hd; exact ⟨rfl, rfl, hs⟩
      split at hd
      · cases hd
      split at hd
      · cases hd; exact ⟨rfl, rfl, hs⟩
      · omega
    split at hd
    · omega
    split at hd
    · omega
    split at hd
    · cases hd; exact ⟨rfl, rfl, hs⟩
    split at hd
    · cases hd; exact ⟨rfl, rfl, hs⟩
    · cases hd
theorem Same1.trans {a b c : Nod} (h : Same1 a b) (k : Same1 b c) : Same1 a c := ⟨h.1, h.2.1.trans k.2.1, h.2.2.trans k.2.2⟩
theorem Stay.step {m3 m : PMod} {c : Cal} (h : Stay m3 m) (h1 : HeldN m3 1) (hk : ¬ (9 ≤ c.kind ∧ c.kind ≤ 13)) (hs : m.seq + 80 ≤ 1099511627776) : Stay m3 (doP m c) := by
  have hh : HeldN m 1 := by unfold HeldN at h1 ⊢; rw [h.h]; exact h1
  obtain ⟨e1, e2, e3⟩ := stay_plan h.ok hh hk
  have hd := (doP_eq (m := m) (c := c) (d := plansP m c) rfl e1).1
  have hO := h.ok.step (c := c) hs
  rw [hd] at hO ⊢
  exact ⟨hO, e2.trans h.h, h.P, h.seq, e3.trans h.same⟩
theorem Stay.has {m3 m : PMod} {a : Int} {b : List UInt8} (h : Stay m3 m) (k : HasIt m3 a b) : HasIt m a b := by
  refine ⟨h.same.1, ?_⟩
  rw [h.P, h.same.2.1, h.same.2.2]
  exact k.read
end Go.Proofs.YtoogangnldppaaaGreatDoor

/- CallOthers. -/
namespace Go.Proofs.YtoogangnldppaaaGreatDoor
open Go
end Go.Proofs.YtoogangnldppaaaGreatDoor

/-
  DERIVED: THE SHELF's CONTRACTS AT THIS DUMP, IN PLAIN WORDS (tools/lay-plain.mjs out of 'TryzShelf.lean', which tools/lay-shelf.mjs wrote): THE SAME DECLARATIONS UNDER THE SAME NAMES: 'import', 'namespace', 'open', 'def', 'theorem' AND NOTHING ELSE: no command of the shelf's: FOR A HAND-IN. Each laying: the table of numbers ('.._ren') and one theorem, a field a fact of the dump's own or the kernel's comparison; each contract: ONE APPLICATION.
-/
namespace Go.Proofs
open Go.Shelf
def Tryz.laysClone_ren : Go.Shelf.Ren := ⟨fun | 5 => 60 | 7 => 93 | n => n, fun | 23 => 69 | 25 => 3 | 3 => 23 | 4 => 4 | 20 => 20 | n => n, fun | n => n⟩
theorem Tryz.laysClone : Go.Proofs.SlLaysW.n5 Tryz.prog Tryz.laysClone_ren := {
  mixed := by kernel_rfl
  f5 := ⟨Tryz.f60.name, by decide, Tryz.func60.trans (congrArg some (by kernel_rfl))⟩
  f7 := Tryz.func93.trans (congrArg some (by kernel_rfl))
  t4 := Tryz.underlying4
  a4 := Tryz.isAgg4
  z4 := Tryz.sizeOf4
  v4 := Tryz.zeroValue4
  t20 := Tryz.underlying20
  a20 := Tryz.isAgg20
  z20 := Tryz.sizeOf20
  v20 := Tryz.zeroValue20
  t23 := Tryz.underlying69
  a23 := Tryz.isAgg69
  z23 := Tryz.sizeOf69
  v23 := Tryz.zeroValue69 }
end Go.Proofs

/- Contract: maps.Clone; a model's copy. -/
namespace Go.Proofs.YtoogangnldppaaaGreatDoor
open Go Go.RowKit
theorem mapClone_ok {V : View} {b : Nat} {es : Array MapEntry} {cl : Nat} (h : V.see b = some (.map es cl)) : CallV Tryz.prog 60 ⟨[.map (some b)]⟩ V fun r V' => ∃ nb, r = .map (some nb) ∧ V.size ≤ nb ∧ V' = V.put nb (.map es cl) := by
  refine ⟨enters_of (fn := Tryz.f60) (by kernel_rfl) (by kernel_rfl) (by kernel_rfl), fun w hw => Calls.mono (AnyW.maps_Clone Tryz.laysClone b es cl w (hw.see b _ h)) ?_⟩
  rintro e w' ⟨rfl, rfl⟩
  have hsz := hw.size
  have hheap : (w.alloc (.map es cl)).heap = w.heap.push (.map es cl) := rfl
  refine ⟨_, V.put w.heap.size (.map es cl), rfl, ⟨?_, fun i o ho => ?_, hw.out⟩, ⟨by rw [hheap, Array.size_push]; omega, fun i hi hn => ⟨?_, ?_⟩, fun _ => Nat.le_refl _⟩, w.heap.size, rfl, hsz, rfl⟩
  · show max V.size (w.heap.size + 1) ≤ _
    rw [hheap, Array.size_push]; omega
  · rw [hheap]
    by_cases e : i = w.heap.size
    · subst e
      rw [View.see_put_same] at ho
      rw [Array.getElem?_push_size]; exact ho
    · rw [View.see_put_ne _ _ e] at ho
      have := hw.see i o ho
      have hlt := (Array.getElem?_eq_some_iff.1 this).1
      rw [Array.getElem?_push, if_neg e]; exact this
  · rw [View.see_put_ne _ _ (by omega)]; exact hn
  · rw [hheap, Array.getElem?_push, if_neg (by omega)]
section
variable {V0 V : View} {p mb : Nat} {m : PMod}
/-- A copy: the same, in blocks of its own. -/
theorem modCopy_ok (hm : ModR V0 V p mb m) (hO : OkP m) : CallV Tryz.prog 31 ⟨[.pointer (some ⟨p, 0, none⟩)]⟩ V fun r V' => ∃ (V0' : View) (q mq : Nat), r = .pointer (some ⟨q, 0, none⟩) ∧ Mv NoB V0 V V0' V' ∧ V.see q = none ∧ V.see mq = none ∧ ModR V0' V' q mq m := by
  refine f31_x ?_
  unfold f31_n
  obtain ⟨s, hs, es, cl, hmc⟩ := hm.ex
  refine br_intro (fun h => by cases h) (fun _ => ⟨trivial, V, View.Le.refl _, _, rfl, _, bx hmc.box 0 rfl, _, rfl, s, bx1 hmc.box 1 rfl, _, rfl, hs, bx hmc.box 2 rfl, _, rfl, _, bx hmc.box 3 rfl, _, rfl, _, bx hmc.box 4 rfl, ?_⟩)
  refine (CallV.stp (B := NoB) (K := fun r V' => ∃ x : Sl, r = treV x ∧ SlR V' x m.t) hm.le ((copyT_ok hmc.tre (mayT_light1000 hO.may)).mono fun r V' ⟨x, h1, h2⟩ => ⟨⟨x, h1, h2.slR⟩, h2.le⟩)).mono ?_
  rintro r V1 ⟨V01, ⟨x, rfl, hx⟩, hS1, hV1⟩
  have hm1 := hmc.stp hS1 id id
  refine ⟨x, rfl, hV1, ?_⟩
  refine (CallV.stp (B := NoB) (K := fun r V' => ∃ z : Sl, r = .slice z.a z.n z.c ∧ SlR V' z m.h) hS1.sub ((cloneI_ok hm1.hands (by rw [offH_len hO.hands]; decide)).mono fun r V' ⟨z, h1, h2, h3⟩ => ⟨⟨z, h1, h2⟩, h3⟩)).mono ?_
  rintro r V2 ⟨V02, ⟨z, rfl, hz⟩, hS2, hV2⟩
  have hm2 := hm1.stp hS2 id id
  refine ⟨z, rfl, hV1.trans hV2, (mapClone_ok hm2.map).mono ?_⟩
  rintro r V3 ⟨nb, rfl, hnb, rfl⟩
  have hS12 := hS1.trans hS2
  have hfr := View.see_none_of_ge hnb
  have hn02 : V02.see nb = none := see_none_le hS2.sub hfr
  have hS3 : Mv NoB V02 V2 V02 (V2.put nb (.map es cl)) := Mv.put _ hS2.sub hn02 (.inr hfr)
  have hV12 := hV1.trans hV2
  refine ⟨some nb, rfl, hV12.trans (View.put_le hfr), fun b hb => ?_⟩
  have hn0b : V02.see b = none := see_none_le hS3.sub hb
  have hS4 : Mv NoB V02 (V2.put nb (.map es cl)) V02 ((V2.put nb (.map es cl)).put b (.cells ⟨[.int .i64 m.data, .slice x.a x.n x.c, .slice z.a z.n z.c, .map (some nb), .int .i64 m.seq]⟩ 71 (0, 0))) := Mv.put _ hS3.sub hn0b (.inr hb)
  have hne : b ≠ nb := by rintro rfl; rw [View.see_put_same] at hb; cases hb
  have none1 : ∀ {i : Nat}, V2.see i = none → V.see i = none := fun {i} hi => by
    cases hs : V.see i with
    | none => rfl
    | some o => rw [hV12.see _ _ hs] at hi; cases hi
  refine ⟨V02, b, nb, rfl, hS12.trans (hS3.trans hS4), none1 (by rw [View.see_put_ne _ _ hne] at hb; exact hb), none1 hfr, ⟨hS4.sub, hn0b, hn02, hne, x, z, es, cl, ?_⟩⟩
  exact ⟨View.see_put_same _ _ _, by rw [View.see_put_ne _ _ (Ne.symm hne)]; exact View.see_put_same _ _ _, hx.mono hS2.base, hz, hm2.pages⟩
end
end Go.Proofs.YtoogangnldppaaaGreatDoor

/- CallCopies. -/
namespace Go.Proofs.YtoogangnldppaaaGreatDoor
open Go
/-- Two models of the program, side by side. -/
structure Two (V0 V : View) (p mb q mq : Nat) (m n : PMod) : Prop where
  a : ModR V0 V p mb m
  b : ModR V0 V q mq n
  pq : p ≠ q
  pn : p ≠ mq
  nq : mb ≠ q
  nn : mb ≠ mq
theorem Two.stp {V0 V V0' V' : View} {p mb q mq : Nat} {m n : PMod} (h : Two V0 V p mb q mq m n) (k : Mv NoB V0 V V0' V') : Two V0' V' p mb q mq m n := ⟨h.a.stp k id id, h.b.stp k id id, h.pq, h.pn, h.nq, h.nn⟩
theorem Two.grow {V0 V V' : View} {p mb q mq : Nat} {m n : PMod} (h : Two V0 V p mb q mq m n) (k : V.Le V') : Two V0 V' p mb q mq m n := h.stp (Mv.grow h.a.le k)
theorem callCopies_ok {V : View} {data : Int} {y yk : Sl} {l lk : List Cal} (h : SlR V y l) (hk : SlR V yk lk) (hg : Glo V) : CallV Tryz.prog 9 ⟨[.int .i64 data, .slice y.a y.n y.c, .slice yk.a yk.n yk.c]⟩ V fun r V' => r = .bool true ∧ V.Le V' := by
  refine f9_x ?_
  unfold f9_n
  refine (heavy22_ok h).mono ?_
  rintro r Va ⟨x, rfl, hx0, hx151, hx, rfl⟩
  refine ⟨x, rfl, (heavy22_ok hk).mono ?_⟩
  rintro r V0 ⟨x', rfl, hx0', hx151', hx', rfl⟩
  refine ⟨x', rfl, inI64 (by omega) (by omega), br_intro (fun _ => awake22J (View.Le.refl _) hg fun V' h => ⟨rfl, h⟩) (fun hb => ?_)⟩
  have hb := of_decide_eq_false hb
  obtain ⟨hl150, _⟩ := hx (by omega)
  obtain ⟨hk150, _⟩ := hx' (by omega)
  have hyn := h.n
  have hykn := hk.n
  have hw := wrap_u64_nn data
  have ht1 := Int.tmod_nonneg 60 hw
  have ht2 := Int.tmod_lt_of_pos (IntKind.wrap .u64 data) (show (0 : Int) < 60 by omega)
  generalize Int.tmod (IntKind.wrap .u64 data) 60 = dd at ht1 ht2
  refine ⟨by decide, inI64 (by omega) (by omega), inI64 (by omega) (by omega), (modNew_ok (View.Le.refl _) (d := 1 + dd) (by omega) (by omega)).mono ?_⟩
  rintro r V1 ⟨V01, p, mb, rfl, hS1, hp0, hmb0, hm1⟩
  refine ⟨_, rfl, ?_⟩
  refine loop1 (k := .int .i64) (fun (jj : Int) V3 => ∃ (j : Nat) (V03 : View) (m : PMod), jj = j ∧ j ≤ l.length ∧ V0.Le V03 ∧ ModR V03 V3 p mb m ∧ OkP m ∧ m.seq ≤ 80 * j) (fun (jj : Int) _ => l.length - jj.toNat)
    ⟨0, V01, newP (1 + dd), rfl, by omega, hS1.base, hm1, OkP.new (by omega) (by omega), Int.le_refl 0⟩ ?_
  rintro (jj : Int) V3 ⟨j, V03, m, rfl, hj, hV3, hm3, hO3, hs3⟩
  refine br_intro (fun hlt => ?_) (fun hge => ?_)
  · have hlt : j < l.length := by have := of_decide_eq_true hlt; omega
    obtain ⟨ad, yc, ha, hcc, hC⟩ := h.calN hlt
    have hsq : m.seq + 80 ≤ 1099511627776 := by omega
    refine ⟨by omega, by omega, ad, ha, _, _, _, _, _, _, yc, cellsAt_mono (hV3.trans hm3.le) hcc, fun _ => (modDo_ok hm3 hO3 hsq (hC.mono hV3) (hg.mono hV3)).mono ?_⟩
    rintro r V4 ⟨V04, hS4, hm4, xa, xb, rfl, hxa, hxb⟩
    have hO4 := hO3.step (c := l.getD j default) hsq
    exact ⟨_, _, _, _, _, xa, xb, rfl, inI64 (by omega) (by omega), ⟨j + 1, V04, _, by omega, by omega, hV3.trans hS4.base, hm4, hO4.1, by have := hO4.2.1; push_cast; omega⟩, by omega⟩
  clear hge
  have hs3 : m.seq ≤ 12000 := by omega
  refine (modCopy_ok hm3 hO3).mono ?_
  rintro r V4 ⟨V04, q, mq, rfl, hS4, hq0, hmq0, hn4⟩
  have hV4 := hV3.trans hS4.base
  have hne : p ≠ q ∧ p ≠ mq ∧ mb ≠ q ∧ mb ≠ mq := by
    obtain ⟨s, hs, es, cl, hc⟩ := hm3.ex
    have h1 := hc.box
    have h2 := hc.map
    refine ⟨?_, ?_, ?_, ?_⟩
    · rintro rfl; rw [hq0] at h1; cases h1
    · rintro rfl; rw [hmq0] at h1; cases h1
    · rintro rfl; rw [hq0] at h2; cases h2
    · rintro rfl; rw [hmq0] at h2; cases h2
  have hB4 : Two V04 V4 p mb q mq m m := ⟨hm3.stp hS4 id id, hn4, hne.1, hne.2.1, hne.2.2.1, hne.2.2.2⟩
  refine ⟨_, rfl, joinP_cut (fun z V5 => z.1 = false ∧ V5 = V4) (br_intro (fun h => by cases h) (fun _ => ⟨rfl, rfl⟩)) ?_⟩
  rintro ⟨z, ⟨⟩⟩ V5 ⟨hz, hV5⟩
  have hz : z = false := hz
  have hV5 : V5 = V4 := hV5
  subst hz hV5
  dsimp only [unc]
  refine br_intro (fun h => by cases h) (fun _ => (modTree_ok hB4.a hO3.may).mono ?_)
  rintro r V6 ⟨V06, x5, rfl, hx5, hS6⟩
  have hB6 := hB4.stp hS6
  have hV6 := hV4.trans hS6.base
  refine ⟨x5, rfl, (modHands_ok hB6.a hO3.hands).mono ?_⟩
  rintro r V7 ⟨V07, x6, rfl, hx6, hS7⟩
  have hB7 := hB6.stp hS7
  have hV7 := hV6.trans hS7.base
  have hx5 := hx5.mono hS7.base
  refine ⟨x6, rfl, fun _ => ?_⟩
  refine loop2 (k := .sl) (l := .int .i64) (fun (w : Sl) (jj : Int) V8 => ∃ (i : Nat) (cs : List Value), jj = i ∧ i ≤ 12 ∧ Buf V8 w 9 (Rep.sz ByteArray) cs ∧ repL V07 cs ((List.range i).map fun (k : Nat) => ba (bytesP m k)) ∧ V7.Le (V8.minus w)) (fun _ (jj : Int) _ => 12 - jj.toNat)
    ⟨0, [], rfl, by omega, Buf.nil _ _ _, rfl, View.Le.refl _⟩ ?_
  rintro (w : Sl) (jj : Int) V8 ⟨i, cs, rfl, hi, hB, hR, hV8⟩
  refine br_intro (fun hlt => ?_) (fun hge => ?_)
  · have hlt : i < 12 := by have := of_decide_eq_true hlt; omega
    have hB8 := hB7.grow hV8
    refine (CallV.besideG (K := fun r U' => ∃ z : Sl, r = .slice z.a z.n z.c ∧ SlR U' z (bytesP m i)) hB ((modBytes_ok hB8.a hO3 i).mono fun r U' ⟨z, h1, h2, h3⟩ => ⟨⟨z, h1, h2⟩, h3⟩)).mono ?_
    rintro r V9 ⟨U, ⟨z, rfl, hz⟩, hU1, hU2, hV89⟩
    have hz9 := hz.mono (hU2.trans (View.minus_le _ _))
    have hwn := (hB.n_eq (α := ByteArray) hR)
    rw [List.length_map, List.length_range] at hwn
    refine ⟨z, rfl, ba (bytesP m i), u8_row hz9, fun r hr => ?_⟩
    have hsz : (ba (bytesP m i)).size ≤ 9223372036854775807 := by
      have := hz.n; have := hz.c; have := hz.lim
      rw [ba_size]; omega
    refine app0 (α := ByteArray) (d := ba (bytesP m i)) rfl (hB.mono hV89) (repL_str hR) ⟨rfl, hsz⟩ (hV8.trans (hU1.trans hU2)) hr rfl (by show (w.n + 1) * 16 ≤ _; omega) (by show w.n + 1 ≤ _; omega) fun z2 V10 cs2 g1 g2 g3 => ?_
    have hL : (List.range i).map (fun (k : Nat) => ba (bytesP m k)) ++ [ba (bytesP m i)] = (List.range (i + 1)).map fun (k : Nat) => ba (bytesP m k) := by rw [List.range_succ, List.map_append]; rfl
    rw [hL] at g2
    have hSl : SlR V10 z2 ((List.range (i + 1)).map fun (k : Nat) => ba (bytesP m k)) := g1.slR g2 (View.minus_le _ _)
    have hz2n := hSl.n
    rw [List.length_map, List.length_range] at hz2n
    obtain ⟨ad, ha, hc, _⟩ := hSl.strN (i := i) (by rw [List.length_map, List.length_range]; omega)
    rw [List.getElem_map, List.getElem_range] at hc
    have hB10 := hB7.grow g3
    refine ⟨trivial, V10, View.Le.refl _, by omega, by omega, ad, ha, _, hc, ?_⟩
    refine (CallV.besideG (K := fun r U' => ∃ z : Sl, r = .slice z.a z.n z.c ∧ SlR U' z (bytesP m i)) g1 ((modBytes_ok hB10.b hO3 i).mono fun r U' ⟨z, h1, h2, h3⟩ => ⟨⟨z, h1, h2⟩, h3⟩)).mono ?_
    rintro r V11 ⟨U2, ⟨z3, rfl, hz3⟩, hU3, hU4, hV1011⟩
    have hz11 := hz3.mono (hU4.trans (View.minus_le _ _))
    refine ⟨z3, rfl, hV1011, V11, hV1011, View.Le.refl _, ba (bytesP m i), u8_row hz11, br_intro (fun hc => absurd hc (by simp)) (fun _ => ⟨inI64 (by omega) (by omega), ⟨i + 1, cs2, by omega, by omega, g1.mono hV1011, repL_str g2, g3.trans (hU3.trans hU4)⟩, by omega⟩)⟩
  have hi12 : i = 12 := by have := of_decide_eq_false hge; omega
  subst hi12
  have hV78 : V7.Le V8 := hV8.trans (View.minus_le _ _)
  obtain ⟨V08, hS8, hle8, hw8, _⟩ := hB.share (α := ByteArray) (Mv.grow (B := NoB) hB7.a.le hV78) hR (fun i hi => by
    cases hs : V7.see i with
    | none => exact absurd hs hi
    | some o => rw [hV8.see _ _ hs]; simp) (hB7.a.le.trans hV8)
  have hB8 := hB7.stp hS8
  have hV08 := hV7.trans hS8.base
  have hx5 := hx5.mono hS8.base
  have hx6 := hx6.mono hS8.base
  refine joinP_cut (fun z V9 => z.1 = false ∧ ∃ V09, V08.Le V09 ∧ Two V09 V9 p mb q mq m m) ⟨trivial, V8, View.Le.refl _, (modTree_ok hB8.b hO3.may).mono ?_⟩ ?_
  · rintro r V9 ⟨V09, x9, rfl, hx9, hS9⟩
    have hB9 := hB8.stp hS9
    have hV89 := hS9.nob
    refine ⟨x9, rfl, hV89, (refSameT_ok (hx9.mono hS9.sub) (hx5.mono (hS9.base.trans hS9.sub))).mono ?_⟩
    rintro r V10 ⟨rfl, rfl⟩
    refine ⟨_, rfl, br_intro (fun hc => absurd hc (by simp)) (fun _ => (modHands_ok hB9.b hO3.hands).mono ?_)⟩
    rintro r V11 ⟨V011, x11, rfl, hx11, hS11⟩
    refine ⟨x11, rfl, (sameI_ok (hx11.mono hS11.sub) (hx6.mono (hS9.base.trans (hS11.base.trans hS11.sub)))).mono ?_⟩
    rintro r V12 ⟨rfl, rfl⟩
    exact ⟨_, rfl, by simp, V011, hS9.base.trans hS11.base, hB9.stp hS11⟩
  rintro ⟨z, ⟨⟩⟩ V9 ⟨hz, V09, hV09, hB9⟩
  have hz : z = false := hz
  subst hz
  dsimp only [unc]
  refine br_intro (fun h => by cases h) (fun _ => ?_)
  refine loop1 (k := .int .i64) (fun (jj : Int) V10 => ∃ (j : Nat) (V010 : View) (n : PMod), jj = j ∧ j ≤ lk.length ∧ V08.Le V010 ∧ Two V010 V10 p mb q mq m n ∧ OkP n ∧ n.seq ≤ 12000 + 80 * j) (fun (jj : Int) _ => lk.length - jj.toNat)
    ⟨0, V09, m, rfl, by omega, hV09, hB9, hO3, by omega⟩ ?_
  rintro (jj : Int) V10 ⟨j2, V010, n, rfl, hj2, hV010, hB10, hOn, hsn⟩
  refine br_intro (fun hlt => ?_) (fun hge => ?_)
  · have hlt : j2 < lk.length := by have := of_decide_eq_true hlt; omega
    obtain ⟨ad, yc, ha, hcc, hC⟩ := hk.calN hlt
    have hsq : n.seq + 80 ≤ 1099511627776 := by omega
    have hV10 := hV08.trans hV010
    refine ⟨by omega, by omega, ad, ha, _, _, _, _, _, _, yc, cellsAt_mono (hV10.trans hB10.a.le) hcc, fun _ => (modDo_ok hB10.b hOn hsq (hC.mono hV10) (hg.mono hV10)).mono ?_⟩
    rintro r V11 ⟨V011, hS11, hn11, xa, xb, rfl, hxa, hxb⟩
    have hO11 := hOn.step (c := lk.getD j2 default) hsq
    have hm11 := hB10.a.stp hS11 (fun h => h.elim hB10.pq hB10.pn) (fun h => h.elim hB10.nq hB10.nn)
    exact ⟨_, _, _, _, _, xa, xb, rfl, inI64 (by omega) (by omega), ⟨j2 + 1, V011, _, by omega, by omega, hV010.trans hS11.base, ⟨hm11, hn11, hB10.pq, hB10.pn, hB10.nq, hB10.nn⟩, hO11.1, by have := hO11.2.1; push_cast; omega⟩, by omega⟩
  clear hge
  have hm10 := hB10.a
  have hx5 := hx5.mono hV010
  have hx6 := hx6.mono hV010
  have hw10 := hw8.mono hV010
  have hV10 := hV08.trans hV010
  have hwn := hw10.n
  rw [List.length_map, List.length_range] at hwn
  refine loop1 (k := .int .i64) (fun (jj : Int) V11 => ∃ (i : Nat), jj = i ∧ i ≤ 12 ∧ V10.Le V11) (fun (jj : Int) _ => 12 - jj.toNat) ⟨0, rfl, by omega, View.Le.refl _⟩ ?_
  rintro (jj : Int) V11 ⟨i, rfl, hi, hV11⟩
  have hm11 : ModR V010 V11 p mb m := hm10.stp (B := NoB) (Mv.grow hm10.le hV11) id id
  refine br_intro (fun hlt => ?_) (fun _ => ?_)
  · have hlt : i < 12 := by have := of_decide_eq_true hlt; omega
    obtain ⟨ad, ha, hc, _⟩ := (hw10.mono hm11.le).strN (i := i) (by rw [List.length_map, List.length_range]; omega)
    rw [List.getElem_map, List.getElem_range] at hc
    refine ⟨trivial, V11, View.Le.refl _, by omega, by omega, ad, ha, _, hc, (modBytes_ok hm11 hO3 i).mono ?_⟩
    rintro r V12 ⟨z, rfl, hz, hV12⟩
    exact ⟨z, rfl, hV12, V12, hV12, View.Le.refl _, ba (bytesP m i), u8_row hz, br_intro (fun hc => absurd hc (by simp)) (fun _ => ⟨inI64 (by omega) (by omega), ⟨i + 1, by omega, by omega, hV11.trans hV12⟩, by omega⟩)⟩
  refine joinP_cut (fun z V' => z.1 = true ∧ V0.Le V') ⟨trivial, V11, View.Le.refl _, (modTree_ok hm11 hO3.may).mono ?_⟩ ?_
  · rintro r V12 ⟨V012, x12, rfl, hx12, hS12⟩
    have hm12 := hm11.stp hS12 id id
    refine ⟨x12, rfl, hS12.nob, (refSameT_ok (hx12.mono hS12.sub) (hx5.mono (hS12.base.trans hS12.sub))).mono ?_⟩
    rintro r V13 ⟨rfl, rfl⟩
    refine ⟨_, rfl, br_intro (fun _ => (modHands_ok hm12 hO3.hands).mono ?_) (fun hc => absurd hc (by simp))⟩
    rintro r V14 ⟨V014, x14, rfl, hx14, hS14⟩
    refine ⟨x14, rfl, (sameI_ok (hx14.mono hS14.sub) (hx6.mono (hS12.base.trans (hS14.base.trans hS14.sub)))).mono ?_⟩
    rintro r V15 ⟨rfl, rfl⟩
    exact ⟨_, rfl, br_intro (fun _ => awake22J (hV10.trans (hS12.base.trans (hS14.base.trans hS14.sub))) hg fun V' h => ⟨rfl, h⟩) (fun hc => absurd hc (by simp))⟩
  rintro ⟨z, ⟨⟩⟩ V' ⟨hz, hV'⟩
  have hz : z = true := hz
  subst hz
  exact ⟨rfl, hV'⟩
end Go.Proofs.YtoogangnldppaaaGreatDoor

/- How rows and trees come in. -/
namespace Go.Proofs.YtoogangnldppaaaGreatDoor
open Go Go.RowKit Go.ChangeShapes Go.WideShapes
section
variable {H : Type} {enc : TypeId × Value → H} {P : Program} {w : World} {base b0 : Nat} {sp : Nat → Bool} {held : Bool} {r : Go.Reach} {v : Value} {d : DataW H} {ps : List MemPlace}
theorem in_slice {α : Type} [Rep α] {t e : TypeId} (ht : P.underlying t = some (.slice e)) (hT : TrodRep P (List α) t) (hv : Value.okWide P w r b0 t v) (hd : DataW.Trod enc P w base sp held t v d ps) :
    ∃ (s : Sl) (l : List α), v = .slice s.a s.n s.c ∧ SlR (View.all w) s l := by
  obtain ⟨a, len, cap, rfl⟩ := okWide_slice ht hv
  obtain ⟨fuel, hf⟩ := hd
  obtain ⟨l, s, he, hs⟩ := hT.of hf
  simp [Value.cells] at he
  exact ⟨s, l, by rw [he.1, he.2.1, he.2.2], hs⟩
end
end Go.Proofs.YtoogangnldppaaaGreatDoor

/- How calls come in. -/
namespace Go.Proofs.YtoogangnldppaaaGreatDoor
open Go Go.RowKit Go.ChangeShapes Go.WideShapes
theorem trodRep_cal {P : Program} {t ti ts tb : TypeId} (h0 : fieldX P t 0 = some (0, ti)) (h1 : fieldX P t 1 = some (1, ts)) (h2 : fieldX P t 2 = some (2, ts)) (h3 : fieldX P t 3 = some (3, ti)) (h4 : fieldX P t 4 = some (4, ti)) (h5 : fieldX P t 5 = some (5, ti)) (h6 : fieldX P t 6 = some (6, tb))
    (hc : P.cellsOf t = 7) (hci : P.cellsOf ti = 1) (hcs : P.cellsOf ts = 1) (hcb : P.cellsOf tb = 1) (hi : P.underlying ti = some (.int .i64)) (hs : P.underlying ts = some .string) (hb : TrodRep P (List UInt8) tb) : TrodRep P Cal t := ⟨fun {H enc w base sp held fuel cs x} h => by
  obtain ⟨hl, n0, y0, g0⟩ := trod_field h0 h
  obtain ⟨_, n1, y1, g1⟩ := trod_field h1 h
  obtain ⟨_, n2, y2, g2⟩ := trod_field h2 h
  obtain ⟨_, n3, y3, g3⟩ := trod_field h3 h
  obtain ⟨_, n4, y4, g4⟩ := trod_field h4 h
  obtain ⟨_, n5, y5, g5⟩ := trod_field h5 h
  obtain ⟨_, n6, y6, g6⟩ := trod_field h6 h
  rw [hc] at hl
  match cs, hl with
  | [a, b, c, d, e, f, g], _ =>
    rw [hci] at g0 g3 g4 g5
    rw [hcs] at g1 g2
    rw [hcb] at g6
    obtain ⟨m0, e0, w0⟩ := (trodRep_int hi).of g0
    obtain ⟨m1, e1, w1⟩ := (trodRep_string hs).of g1
    obtain ⟨m2, e2, w2⟩ := (trodRep_string hs).of g2
    obtain ⟨m3, e3, w3⟩ := (trodRep_int hi).of g3
    obtain ⟨m4, e4, w4⟩ := (trodRep_int hi).of g4
    obtain ⟨m5, e5, w5⟩ := (trodRep_int hi).of g5
    obtain ⟨l6, s6, e6, w6⟩ := hb.of g6
    simp at e0 e1 e2 e3 e4 e5 e6
    exact ⟨⟨m0, m1, m2, m3, m4, m5, l6⟩, s6, by rw [e0, e1, e2, e3, e4, e5, e6]; rfl, ⟨w0, w1, w2, w3, w4, w5, w6⟩⟩⟩
theorem calIn : TrodRep Tryz.prog Cal 35 := trodRep_cal (ti := 3) (ts := 9) (tb := 23) (by kernel_rfl) (by kernel_rfl) (by kernel_rfl) (by kernel_rfl) (by kernel_rfl) (by kernel_rfl) (by kernel_rfl) (by kernel_rfl) (by kernel_rfl) (by kernel_rfl) (by kernel_rfl) Tryz.underlying3 Tryz.underlying9 bytesIn
theorem calsIn : TrodRep Tryz.prog (List Cal) 22 := trodRep_slice (e := 35) Tryz.underlying22 (by kernel_rfl) calIn
end Go.Proofs.YtoogangnldppaaaGreatDoor
