/- Texts joined: ChipNew1Ok, ChipNewOk, Pool7Ok, PoolNilOk, PoolNil2Ok, In, PolIn. -/
import Derived.Test.YtgkmcnafkhdlnaaGreatPk3
import Derived.Test.YtgkmcnafkhdlnaaGreatPk2
import Derived.Test.YtgkmcnafkhdlnaaGreatPk1
set_option linter.unusedVariables false
set_option linter.unusedSimpArgs false
/- chip.New: a round. -/
namespace Go.Proofs.YtgkmcnafkhdlnaaGreat
open Go
theorem indexI_ok {s : Sl} {l : List Int} {x : Int} {V : View} (h : SlR V s l) : CallV Tryz.prog 102 ⟨[.slice s.a s.n s.c, .int .i64 x]⟩ V fun r V' => (∃ i : Int, r = .int .i64 i ∧ decide (0 ≤ i) = decide (x ∈ l)) ∧ V' = V := by
  refine f102_x ?_
  unfold f102_n
  have hn := h.n
  have hlim := h.lim
  refine loop1 (k := .int .i64) (fun (i : Int) V' => ∃ j : Nat, i = j ∧ j ≤ l.length ∧ x ∉ l.take j ∧ V' = V) (fun (i : Int) _ => l.length - i.toNat) ⟨0, rfl, Nat.zero_le _, by simp, rfl⟩ ?_
  rintro (i : Int) V' ⟨j, rfl, hj, hx, rfl⟩
  refine br_intro (fun hlt => ?_) (fun hge => ?_)
  · have hlt : j < l.length := by have := of_decide_eq_true hlt; omega
    obtain ⟨ad, hl, ha, hc, hi⟩ := h.int (x := (j : Int)) (by omega) (by omega)
    refine ⟨by omega, by omega, ad, ha, _, hc, br_intro (fun he => ?_) (fun he => ?_)⟩
    · have he := of_decide_eq_true he
      refine ⟨⟨_, rfl, ?_⟩, rfl⟩
      rw [decide_eq_true (show (0 : Int) ≤ (j : Int) by omega), decide_eq_true (show x ∈ l by rw [he]; exact List.getElem_mem _)]
    · have he := of_decide_eq_false he
      refine ⟨inI64 (by omega) (by omega), ⟨j + 1, by omega, by omega, fun hm => ?_, rfl⟩, by omega⟩
      rw [List.take_add_one, List.getElem?_eq_getElem hlt, List.mem_append] at hm
      rcases hm with hm | hm
      · exact hx hm
      · simp at hm; exact he hm
  · have hge : l.length ≤ j := by have := of_decide_eq_false hge; omega
    rw [List.take_of_length_le hge] at hx
    exact ⟨⟨-1, rfl, by rw [decide_eq_false hx]; rfl⟩, rfl⟩
theorem containsI_ok {s : Sl} {l : List Int} {x : Int} {V : View} (h : SlR V s l) : CallV Tryz.prog 62 ⟨[.slice s.a s.n s.c, .int .i64 x]⟩ V fun r V' => r = .bool (decide (x ∈ l)) ∧ V' = V := by
  refine f62_x ?_
  unfold f62_n
  refine (indexI_ok h).mono ?_
  rintro r V1 ⟨⟨i, rfl, hi⟩, rfl⟩
  exact ⟨i, rfl, by rw [hi], rfl⟩
def blk0 (pages : Nat) (b : Bool) : Blk := ⟨b, 0, 0, List.replicate pages []⟩
/-- A chip on which nothing was programmed; the rows of pages stand in blocks .1, .2 is how the blocks are called. -/
def newC (pages : Nat) (bad : List Int) (q : List (Nat × Int)) : Chp := ⟨q.map fun p => (p.1, blk0 pages (decide (p.2 ∈ bad))), pages, 0, 0, 0, -1, -1, -1, 0, false⟩
open Classical in
/-- V; of blocks from N on those that are cells. -/
noncomputable def View.onlyC (V : View) (N : Nat) : View := ⟨V.size, fun i => match V.see i with
  | some o => if N ≤ i ∧ o.isCells = false then none else some o
  | none => none, V.out, fun i o h => by
    cases hs : V.see i with
    | none => rw [hs] at h; cases h
    | some o' => exact V.lt i o' hs⟩
theorem onlyC_le (V : View) (N : Nat) : (V.onlyC N).Le V := ⟨Nat.le_refl _, fun i o h => by
  unfold View.onlyC at h
  simp only at h
  cases hs : V.see i with
  | none => rw [hs] at h; cases h
  | some o' =>
    rw [hs] at h
    simp only at h
    split at h
    · cases h
    · exact h, rfl⟩
theorem onlyC_see {V : View} {N i : Nat} {o : Obj} (h : V.see i = some o) (ho : i < N ∨ o.isCells = true) : (V.onlyC N).see i = some o := by
  unfold View.onlyC
  simp only [h]
  rw [if_neg]
  rintro ⟨a, b⟩
  rcases ho with ho | ho
  · omega
  · rw [ho] at b; cases b
theorem onlyC_cells {V : View} {N i : Nat} {o : Obj} (hi : N ≤ i) (h : (V.onlyC N).see i = some o) : o.isCells = true := by
  unfold View.onlyC at h
  simp only at h
  cases hs : V.see i with
  | none => rw [hs] at h; cases h
  | some o' =>
    rw [hs] at h
    simp only at h
    split at h
    · cases h
    · rename_i hn
      cases h
      cases hc : o.isCells with
      | true => rfl
      | false => exact absurd ⟨hi, hc⟩ hn
/-- Between two rounds. B: the first block that the call made. -/
structure NewI (V : View) (B : Nat) (s : Sl) (bad : List Int) (pages : Nat) (V' : View) (x : Sl) (q : List (Nat × Int)) : Prop where
  le : V.Le (V'.minus x)
  b0 : (V'.minus x).see B = some (.cells ⟨[.int .i64 pages]⟩ 3 (0, 0))
  b1 : (V'.minus x).see (B + 1) = some (.cells ⟨[.slice s.a s.n s.c]⟩ 72 (0, 0))
  b3 : (V'.minus x).see (B + 3) = some (.cells ⟨[.pointer (some ⟨B + 2, 0, none⟩)]⟩ 47 (0, 0))
  box : (V'.minus x).see (B + 2) = some (.cells ⟨chpL x (newC pages bad q)⟩ 113 (0, 0))
  row : ∃ cs, Buf V' x 95 4 cs ∧ repL V cs (newC pages bad q).bl
  pgs : ∀ p ∈ q, (V'.minus x).see p.1 = some (.cells ⟨List.replicate pages (.slice none 0 0)⟩ 24 (0, 0)) ∧ p.1 ≠ B + 2 ∧ V.see p.1 = none
  nd : (q.map Prod.fst).Nodup
  len : q.length ≤ 64
theorem minus_see {V : View} {x : Sl} {i : Nat} (h : ∀ a, x.a = some a → a.block ≠ i) : (V.minus x).see i = V.see i := by
  unfold View.minus
  split
  · rfl
  · rename_i a ha; rw [hide_see, if_neg fun e => h a ha e.symm]
theorem minus_ne {V : View} {x : Sl} {i : Nat} {o : Obj} (h : (V.minus x).see i = some o) (a : Addr) (ha : x.a = some a) : a.block ≠ i := by
  rintro rfl
  unfold View.minus at h
  rw [ha] at h
  simp [hide_see] at h
theorem flat_one : ∀ n : Nat, (List.replicate n [Value.slice none 0 0]).flatten = List.replicate n (.slice none 0 0)
  | 0 => rfl
  | n + 1 => by rw [List.replicate_succ, List.replicate_succ, List.flatten_cons, flat_one n]; rfl
theorem bytes8 (h : 24 < Tryz.prog.toTables.types.size) : (Tryz.prog.toTables.types[24]'h).bytes = 24 := by kernel_rfl
theorem newR_ok {V V' : View} {B : Nat} {s x : Sl} {bad : List Int} {pages : Nat} {q : List (Nat × Int)} {u : Nat → Value} {i : Int} (hs : SlR V s bad) (hp : pages ≤ 32) (h : NewI V B s bad pages V' x q) (hq : q.length < 64) (hB : V.size ≤ B) :
    r21_n u ⟨B, 0, none⟩ ⟨B + 1, 0, none⟩ ⟨B + 3, 0, none⟩ i V' fun V2 => ∃ y p, NewI V B s bad pages V2 y (q ++ [(p, i)]) := by
  unfold r21_n
  obtain ⟨cs, hb, hr⟩ := h.row
  have hxn := hb.n_eq (α := Pb) hr
  have hxl : (newC pages bad q).bl.length = q.length := by simp [newC]
  have hxq : x.n = q.length := hxn.trans hxl
  have c0 : (V'.minus x).cell? ⟨B, 0, none⟩ = some (.int .i64 pages) := cell_of_see h.b0 rfl
  have c1 : (V'.minus x).cell? ⟨B + 1, 0, none⟩ = some (.slice s.a s.n s.c) := cell_of_see h.b1 rfl
  have c3 : (V'.minus x).cell? ⟨B + 3, 0, none⟩ = some (.pointer (some ⟨B + 2, 0, none⟩)) := cell_of_see h.b3 rfl
  have c2 : (V'.minus x).cell? ((⟨B + 2, 0, none⟩ : Addr).add 0) = some (.slice x.a x.n x.c) := bx h.box 0 rfl
  have hs' : SlR V' s bad := hs.mono (h.le.trans (View.minus_le _ _))
  -- the row of pages, the element, the append: the same whichever comes first
  have fin : ∀ (J : View → Prop), (∀ V2 y p, NewI V B s bad pages V2 y (q ++ [(p, i)]) → J V2) → ∀ r, V'.size ≤ r → ∀ r2, (V'.put r (.cells ⟨(List.replicate ((pages : Int)).toNat [Value.slice none 0 0]).flatten⟩ 24)).size ≤ r2 →
      apV ((V'.put r (.cells ⟨(List.replicate ((pages : Int)).toNat [Value.slice none 0 0]).flatten⟩ 24)).put r2 (.cells ⟨putL [.bool false, .int .i64 0, .int .i64 0, .slice none 0 0] 0 [.bool (decide (i ∈ bad)), .int .i64 0, .int .i64 0, .slice (some ⟨r, 0, none⟩) ((pages : Int)).toNat ((pages : Int)).toNat]⟩ 95)) 95 4 48
        [.bool false, .int .i64 0, .int .i64 0, .slice none 0 0] ⟨x.a, x.n, x.c⟩ (.slice (some ⟨r2, 0, none⟩) 1 1) fun y V2 => (V'.minus x).Le V2 ∧ ∃ a : Addr, some (⟨B + 2, 0, none⟩ : Addr) = some a ∧ canSet V2 (a.add 0) 1 ∧ J (V2.sets (a.add 0) [.slice y.a y.n y.c]) := by
    intro J hJ r hr1 r2 hr2
    rw [flat_one, Int.toNat_natCast] at *
    have hfr : V'.see r = none := View.see_none_of_ge hr1
    have hp1 := View.put_le (o := .cells ⟨List.replicate pages (.slice none 0 0)⟩ 24) hfr
    have hrz : r < (V'.put r (.cells ⟨List.replicate pages (.slice none 0 0)⟩ 24)).size := Nat.lt_of_lt_of_le (Nat.lt_succ_self _) (Nat.le_max_right _ _)
    generalize hW : V'.put r (.cells ⟨List.replicate pages (.slice none 0 0)⟩ 24) = W at *
    have hWr : W.see r = some (.cells ⟨List.replicate pages (.slice none 0 0)⟩ 24 (0, 0)) := by rw [← hW]; exact View.see_put_same _ _ _
    have hfr2 : W.see r2 = none := View.see_none_of_ge hr2
    refine apV_buf rfl ((hb.mono hp1).put hfr2) (src := [.bool (decide (i ∈ bad)), .int .i64 0, .int .i64 0, .slice (some ⟨r, 0, none⟩) pages pages]) (m := 1) ⟨rfl, rowAt_new (View.see_put_same _ _ _) rfl⟩ rfl rfl (by show (x.n + 1) * 48 ≤ _; omega) (by show x.n + 1 ≤ _; omega) fun y V2 hy hyn hle => ?_
    have hxr : ∀ a, x.a = some a → a.block ≠ r := by
      rintro a ha rfl
      rcases hb.own with ⟨hn, _⟩ | ⟨b, all, h1, h2, _⟩
      · rw [hn] at ha; cases ha
      · rw [h1] at ha; cases ha; rw [h2] at hfr; cases hfr
    have hleW : (V'.minus x).Le (V2.minus y) := (minus_mono hp1 x).trans ((put_minus_le hfr2).trans hle)
    have hbox := hleW.see _ _ h.box
    have hby : ∀ a, y.a = some a → a.block ≠ B + 2 := minus_ne hbox
    have hbox2 : V2.see (B + 2) = some (.cells ⟨chpL x (newC pages bad q)⟩ 113 (0, 0)) := (View.minus_le _ _).see _ _ hbox
    refine ⟨hleW.trans (View.minus_le _ _), _, rfl, bxc hbox2 0 1 (by simp [chpL]), hJ _ y r ?_⟩
    rw [bxe hbox2]
    have keep : ∀ {j : Nat} {o : Obj}, j ≠ B + 2 → (V2.minus y).see j = some o → ((V2.put (B + 2) (.cells ⟨putL (chpL x (newC pages bad q)) 0 [.slice y.a y.n y.c]⟩ 113 (0, 0))).minus y).see j = some o := fun {j o} hne hj => by
      have := minus_ne hj
      rw [minus_see this] at hj ⊢
      rw [View.see_put_ne _ _ hne]; exact hj
    have hrs : (V2.minus y).see r = some (.cells ⟨List.replicate pages (.slice none 0 0)⟩ 24 (0, 0)) := hle.see _ _ (by
      rw [minus_see hxr, View.see_put_ne _ _ (by omega)]; exact hWr)
    have hrB : r ≠ B + 2 := by
      rintro rfl
      have := (View.minus_le _ _).see _ _ h.box
      rw [hfr] at this; cases this
    have hVr : V.see r = none := by
      cases hv : V.see r with
      | none => rfl
      | some o => have := (h.le.trans (View.minus_le _ _)).see _ _ hv; rw [hfr] at this; cases this
    refine ⟨⟨?_, fun j o hj => keep ?_ ((h.le.trans hleW).see _ _ hj), ?_⟩, keep (by omega) (hleW.see _ _ h.b0), keep (by omega) (hleW.see _ _ h.b1), keep (by omega) (hleW.see _ _ h.b3), ?_, ⟨cs ++ [.bool (decide (i ∈ bad)), .int .i64 0, .int .i64 0, .slice (some ⟨r, 0, none⟩) pages pages], ?_, ?_⟩, ?_, ?_, ?_⟩
    · have h1 := (h.le.trans hleW).size
      have h2 : ∀ (Z : View) (y : Sl), (Z.minus y).size = Z.size := fun Z y => by unfold View.minus; split <;> rfl
      rw [h2] at h1 ⊢
      exact Nat.le_trans h1 (Nat.le_max_left _ _)
    · have := V.lt j o hj; omega
    · have h1 := (h.le.trans hleW).out
      have h2 : ∀ (Z : View) (y : Sl), (Z.minus y).out = Z.out := fun Z y => by unfold View.minus; split <;> rfl
      rw [h2] at h1 ⊢
      exact h1
    · rw [minus_see hby, View.see_put_same]; rfl
    · exact hy.see fun a o ha ho => by rw [View.see_put_ne _ _ (hby a ha)]; exact ho
    · have := hr.snoc (x := ((r, blk0 pages (decide (i ∈ bad))) : Pb)) (vs := [.bool (decide (i ∈ bad)), .int .i64 0, .int .i64 0, .slice (some ⟨r, 0, none⟩) pages pages]) ⟨by simp [blk0], inI64 (by simp [blk0]) (by simp [blk0]), inI64 (by simp [blk0]) (by simp [blk0])⟩
      simpa [newC] using this
    · intro p hp
      rcases List.mem_append.1 hp with hp | hp
      · obtain ⟨a, b, c⟩ := h.pgs p hp
        exact ⟨keep b (hleW.see _ _ a), b, c⟩
      · rw [List.mem_singleton] at hp
        subst hp
        exact ⟨keep hrB hrs, hrB, hVr⟩
    · rw [List.map_append, List.nodup_append]
      refine ⟨h.nd, by simp, ?_⟩
      intro a ha b hb' e
      simp at hb'
      subst hb' e
      obtain ⟨p, hp, rfl⟩ := List.mem_map.1 ha
      have := (View.minus_le _ _).see _ _ (h.pgs p hp).1
      rw [hfr] at this; cases this
    · simp; omega
  refine joinP_cut (fun _ V2 => ∃ y p, NewI V B s bad pages V2 y (q ++ [(p, i)])) ⟨trivial, V'.minus x, View.minus_le _ _, _, c3, _, c3, _, rfl, x, c2, s, c1, pages, c0, ?_, ?_⟩ (fun _ _ h => h)
  · refine (containsI_ok hs').mono ?_
    rintro r V1 ⟨rfl, rfl⟩
    refine ⟨_, rfl, View.minus_le _ _, by omega, by omega, ?_, by omega, fun r hr1 => ⟨(View.minus_le _ _).trans (View.put_le (View.see_none_of_ge hr1)), fun r2 hr2 => ⟨(View.minus_le _ _).trans ((View.put_le (View.see_none_of_ge hr1)).trans (View.put_le (View.see_none_of_ge hr2))), ?_⟩⟩⟩
    · exact Int.le_trans (Int.le_of_eq (congrArg (fun z : Nat => (pages : Int) * (z : Int)) (bytes8 _))) (by omega)
    · exact fin _ (fun V2 y p h => ⟨y, p, h⟩) r hr1 r2 hr2
  · refine ⟨by omega, by omega, ?_, by omega, fun r hr1 => ⟨(View.minus_le _ _).trans (View.put_le (View.see_none_of_ge hr1)), ?_⟩⟩
    · exact Int.le_trans (Int.le_of_eq (congrArg (fun z : Nat => (pages : Int) * (z : Int)) (bytes8 _))) (by omega)
    refine (containsI_ok (hs'.mono (View.put_le (View.see_none_of_ge hr1)))).mono ?_
    rintro r' V1 ⟨rfl, rfl⟩
    refine ⟨_, rfl, (View.minus_le _ _).trans (View.put_le (View.see_none_of_ge hr1)), fun r2 hr2 => ⟨(View.minus_le _ _).trans ((View.put_le (View.see_none_of_ge hr1)).trans (View.put_le (View.see_none_of_ge hr2))), ?_⟩⟩
    exact fin _ (fun V2 y p h => ⟨y, p, h⟩) r hr1 r2 hr2
end Go.Proofs.YtgkmcnafkhdlnaaGreat
/- chip.New. -/
namespace Go.Proofs.YtgkmcnafkhdlnaaGreat
open Go Go.RowKit Go.Shelf
attribute [local go_sem] Oper.semAt_some
theorem In_alloc {V : View} {w : World} (h : V.In w) (o : Obj) : V.In (w.alloc o) :=
  ⟨by rw [World.size_alloc]; exact Nat.le_succ_of_le h.size, fun i o' hi => (Below.heap_alloc w o i (Nat.lt_of_lt_of_le (V.lt i o' hi) h.size)).trans (h.see i o' hi), h.out⟩
theorem In_alloc_put {V : View} {w : World} (h : V.In w) (o : Obj) : (V.put w.heap.size o).In (w.alloc o) :=
  ⟨by rw [World.size_alloc]; have := h.size; show max V.size (w.heap.size + 1) ≤ _; omega, fun i o' hi => by
    by_cases e : i = w.heap.size
    · subst e; rw [View.see_put_same] at hi; cases hi; exact World.alloc_heap_new w o
    · rw [View.see_put_ne _ _ e] at hi; exact (In_alloc h o).see i o' hi, h.out⟩
theorem start_agr' {args : List Value} {n : Nat} (h : args.length = n) : AgrB (startX args n) { tmps := ⟨args⟩, defers := [] } := by
  have := @start_agr _ args n
  rw [h, Nat.sub_self] at this
  simpa using this
theorem Fr_alloc_put {V V' : View} {w W : World} (h : Fr V w V' W) (o : Obj) : Fr V w (V'.put W.heap.size o) (W.alloc o) :=
  ⟨by rw [World.size_alloc]; exact Nat.le_succ_of_le h.size, fun i hi hn => by
    have hne : i ≠ W.heap.size := fun e => by have := h.size; omega
    rw [View.see_put_ne _ _ hne]
    exact ⟨(h.hid i hi hn).1, (Below.heap_alloc W o i (Nat.lt_of_lt_of_le hi h.size)).trans (h.hid i hi hn).2⟩, fun e => h.drawn e⟩
/-- What the law of a range over a function may do to the heap leaves what is seen, if that is cells. -/
theorem In_grown {V : View} {W W' : World} {row : Option Nat} {N : Nat} (h : V.In W) (hc : ∀ i o, N ≤ i → V.see i = some o → o.isCells = true) (hg : W.grownBy W' row) (hr : ∀ r, row = some r → N ≤ r ∧ ∃ o : Obj, W.heap[r]? = some o ∧ o.isCells = false) : V.In W' :=
  ⟨Nat.le_trans h.size hg.size, fun i o hi => by
    refine (hg.block i (Nat.lt_of_lt_of_le (V.lt i o hi) h.size) fun e => ?_).trans (h.see i o hi)
    obtain ⟨h1, o', h2, h3⟩ := hr i e.symm
    rw [h.see i o hi] at h2
    cases h2
    rw [hc i o h1 hi] at h3
    exact absurd h3 (by simp), by
    have := h.out
    unfold World.outer at *
    rw [hg.os, hg.tape, hg.output]; exact this⟩
theorem Fr_grown {V V' : View} {w W W' : World} {row : Option Nat} (h : Fr V w V' W) (hg : W.grownBy W' row) (hr : ∀ r, row = some r → w.heap.size ≤ r) : Fr V w V' W' :=
  ⟨Nat.le_trans h.size hg.size, fun i hi hn => ⟨(h.hid i hi hn).1, (hg.block i (Nat.lt_of_lt_of_le hi h.size) fun e => by have := hr i e.symm; omega).trans (h.hid i hi hn).2⟩, fun e => e.elim⟩
theorem Fr_only {V V' : View} {w W : World} (h : Fr V w V' W) (N : Nat) : Fr V w (V'.onlyC N) W :=
  ⟨h.size, fun i hi hn => ⟨by
    cases hs : (V'.onlyC N).see i with
    | none => rfl
    | some o => exact absurd ((h.hid i hi hn).1.symm.trans ((onlyC_le V' N).see _ _ hs)) (by simp), (h.hid i hi hn).2⟩, h.drawn⟩
theorem minus_only {V : View} {N : Nat} {x : Sl} {i : Nat} {o : Obj} (h : (V.minus x).see i = some o) (ho : i < N ∨ o.isCells = true) : ((V.onlyC N).minus x).see i = some o := by
  have hne := minus_ne h
  rw [minus_see hne] at h ⊢
  exact onlyC_see h ho
theorem NewI.only {V V' : View} {B N pages : Nat} {s x : Sl} {bad : List Int} {q : List (Nat × Int)} (h : NewI V B s bad pages V' x q) (hN : V.size ≤ N) : NewI V B s bad pages (V'.onlyC N) x q := by
  obtain ⟨cs, h1, h2⟩ := h.row
  refine ⟨⟨?_, fun i o hi => minus_only (h.le.see i o hi) (.inl (by have := V.lt i o hi; omega)), ?_⟩, minus_only h.b0 (.inr rfl), minus_only h.b1 (.inr rfl), minus_only h.b3 (.inr rfl), minus_only h.box (.inr rfl), ⟨cs, ?_, h2⟩, fun p hp => ?_, h.nd, h.len⟩
  · have h1 := h.le.size
    have h2 : ∀ (Z : View) (y : Sl), (Z.minus y).size = Z.size := fun Z y => by unfold View.minus; split <;> rfl
    rw [h2] at h1 ⊢; exact h1
  · have h1 := h.le.out
    have h2 : ∀ (Z : View) (y : Sl), (Z.minus y).out = Z.out := fun Z y => by unfold View.minus; split <;> rfl
    rw [h2] at h1 ⊢; exact h1
  · refine ⟨h1.len, h1.le, h1.lim, h1.own.imp id ?_⟩
    rintro ⟨r, all, a, b, c⟩
    exact ⟨r, all, a, onlyC_see b (.inr rfl), c⟩
  · obtain ⟨a, b, c⟩ := h.pgs p hp
    exact ⟨minus_only a (.inr rfl), b, c⟩
set_option maxRecDepth 100000 in
set_option maxHeartbeats 4000000 in
theorem chipNew_ok {V : View} {s : Sl} {bad : List Int} {blocks : Nat} {pages : Nat} (hs : SlR V s bad) (hb0 : 1 ≤ blocks) (hb1 : blocks ≤ 64) (hp0 : 1 ≤ pages) (hp1 : pages ≤ 32) :
    CallV Tryz.prog 21 ⟨[.int .i64 blocks, .int .i64 pages, .slice s.a s.n s.c]⟩ V fun r V' => ∃ B x q, r = .pointer (some ⟨B + 2, 0, none⟩) ∧ q.map Prod.snd = uptoZ blocks ∧ V.size ≤ B ∧ NewI V B s bad pages V' x q := by
  refine ⟨enters_of (fn := Tryz.f21) (by kernel_rfl) (by kernel_rfl) (by kernel_rfl), fun w hw => ?_⟩
  refine (callsIn_wide (n := 5)).1 (callsIn_of_wp_marks Tryz.func21 rfl trivial ?_ rfl)
  simp only [Tryz.ntmps21, List.size_toArray, List.length_cons, List.length_nil, Nat.reduceAdd, Nat.reduceSub, Array.replicate_succ, Array.replicate_zero, List.push_toArray, List.append_toArray, List.nil_append, List.cons_append]
  have g1 : ¬ (blocks : Int) < 1 := by omega
  have g2 : ¬ (64 : Int) < blocks := by omega
  have g3 : ¬ (pages : Int) < 1 := by omega
  have g4 : ¬ (32 : Int) < pages := by omega
  gi_wp2
  refine ⟨trivial, (turn_in 4 _ _ _).mono ?_⟩
  rintro e w' ⟨rfl, rfl⟩
  have hVB : V.size ≤ w.heap.size := hw.size
  simp only [World.size_alloc]
  gi_wp2
  obtain ⟨V1, hV1⟩ : ∃ V1, V1 = (((((V.put w.heap.size (.cells ⟨[.int .i64 pages]⟩ 3)).put (w.heap.size + 1) (.cells ⟨[.slice s.a s.n s.c]⟩ 72)).put (w.heap.size + 1 + 1) (.cells ⟨chpL ⟨none, 0, 0⟩ (newC pages bad [])⟩ 113)).put (w.heap.size + 1 + 1 + 1) (.cells ⟨[.pointer (some ⟨w.heap.size + 1 + 1, 0, none⟩)]⟩ 47)).put (w.heap.size + 1 + 1 + 1 + 1) (.cells ⟨[.int .i64 blocks]⟩ 3)).put (w.heap.size + 1 + 1 + 1 + 1 + 1) (.cells ⟨[.int .i64 0]⟩ 3) := ⟨_, rfl⟩
  obtain ⟨W1, hW1⟩ : ∃ W1, (((((w.alloc (.cells #[.int .i64 pages] 3)).alloc (.cells #[.slice s.a s.n s.c] 72)).alloc (.cells #[.slice none 0 0, .int .i64 pages, .int .i64 0, .int .i64 0, .int .i64 0, .int .i64 (-1), .int .i64 (-1), .int .i64 (-1), .int .i64 0, .bool false] 113)).alloc (.cells #[.pointer (some ⟨w.heap.size + 1 + 1, 0, none⟩)] 47)).alloc (.cells #[.int .i64 blocks] 3)).alloc (.cells #[.int .i64 0] 3) = W1 := ⟨_, rfl⟩
  rw [hW1]
  have hI1 : V1.In W1 := by
    have i0 := In_alloc_put hw (.cells #[.int .i64 pages] 3)
    have i1 := In_alloc_put i0 (.cells #[.slice s.a s.n s.c] 72)
    have i2 := In_alloc_put i1 (.cells ⟨chpL ⟨none, 0, 0⟩ (newC pages bad [])⟩ 113)
    have i3 := In_alloc_put i2 (.cells #[.pointer (some ⟨w.heap.size + 1 + 1, 0, none⟩)] 47)
    have i4 := In_alloc_put i3 (.cells #[.int .i64 blocks] 3)
    have i5 := In_alloc_put i4 (.cells #[.int .i64 0] 3)
    simp only [World.size_alloc] at i1 i2 i3 i4 i5
    rw [hV1, ← hW1]; exact i5
  have hF1 : Fr V w V1 W1 := by
    have i0 := Fr_alloc_put (Fr.refl V w) (.cells #[.int .i64 pages] 3)
    have i1 := Fr_alloc_put i0 (.cells #[.slice s.a s.n s.c] 72)
    have i2 := Fr_alloc_put i1 (.cells ⟨chpL ⟨none, 0, 0⟩ (newC pages bad [])⟩ 113)
    have i3 := Fr_alloc_put i2 (.cells #[.pointer (some ⟨w.heap.size + 1 + 1, 0, none⟩)] 47)
    have i4 := Fr_alloc_put i3 (.cells #[.int .i64 blocks] 3)
    have i5 := Fr_alloc_put i4 (.cells #[.int .i64 0] 3)
    simp only [World.size_alloc] at i1 i2 i3 i4 i5
    rw [hV1, ← hW1]; exact i5
  have hS1 : W1.heap.size = w.heap.size + 6 := by rw [← hW1]; simp only [World.size_alloc]
  clear hW1
  obtain ⟨B, hB⟩ : ∃ B, w.heap.size = B := ⟨_, rfl⟩
  rw [hB] at hS1 hV1 hVB ⊢
  have see1 : ∀ {j : Nat} {o : Obj}, (V1.see j = some o) → ((V1.minus ⟨none, 0, 0⟩).see j = some o) := fun h => h
  have e0 : V1.see B = some (.cells ⟨[.int .i64 pages]⟩ 3 (0, 0)) := by
    rw [hV1]; iterate 5 rw [View.see_put_ne _ _ (by omega)]
    exact View.see_put_same _ _ _
  have e1 : V1.see (B + 1) = some (.cells ⟨[.slice s.a s.n s.c]⟩ 72 (0, 0)) := by
    rw [hV1]; iterate 4 rw [View.see_put_ne _ _ (by omega)]
    exact View.see_put_same _ _ _
  have e2 : V1.see (B + 2) = some (.cells ⟨chpL ⟨none, 0, 0⟩ (newC pages bad [])⟩ 113 (0, 0)) := by
    rw [hV1]; iterate 3 rw [View.see_put_ne _ _ (by omega)]
    exact View.see_put_same _ _ _
  have e3 : V1.see (B + 3) = some (.cells ⟨[.pointer (some ⟨B + 2, 0, none⟩)]⟩ 47 (0, 0)) := by
    rw [hV1]; iterate 2 rw [View.see_put_ne _ _ (by omega)]
    exact View.see_put_same _ _ _
  have e4 : V1.see (B + 4) = some (.cells ⟨[.int .i64 blocks]⟩ 3 (0, 0)) := by
    rw [hV1, View.see_put_ne _ _ (by omega)]
    exact View.see_put_same _ _ _
  have e5 : V1.see (B + 5) = some (.cells ⟨[.int .i64 0]⟩ 3 (0, 0)) := by
    rw [hV1]; exact View.see_put_same _ _ _
  have hC1 : ∀ i o, W1.heap.size ≤ i → V1.see i = some o → o.isCells = true := fun i o hi ho => by
    have := V1.lt i o ho; have := hI1.size; omega
  have hN1 : NewI V B s bad pages V1 ⟨none, 0, 0⟩ [] := by
    refine ⟨⟨?_, fun i o hi => see1 ?_, by rw [show (V1.minus ⟨none, 0, 0⟩) = V1 from rfl, hV1]; rfl⟩, e0, e1, e3, e2, ⟨[], Buf.nil _ _ _, rfl⟩, fun p hp => (by cases hp), List.nodup_nil, by simp⟩
    · have := hI1.size
      rw [show (V1.minus ⟨none, 0, 0⟩) = V1 from rfl, hV1]
      show V.size ≤ max (max (max (max (max (max _ _) _) _) _) _) _
      omega
    · have := V.lt i o hi
      rw [hV1]; iterate 6 rw [View.see_put_ne _ _ (by omega)]
      exact hi
  clear hV1 see1
  refine wpIn_rangeFunc_ownG (α := Int) (F := Fence.wide) rfl (by omega) (gf := 100) (lb := #[.pointer (some ⟨B + 1 + 1 + 1 + 1, 0, none⟩), .pointer (some ⟨B + 1 + 1 + 1 + 1 + 1, 0, none⟩)]) rfl trivial (enters_of Tryz.func100 (by kernel_rfl) rfl)
    (turn_stops 4 blocks (by omega) W1 (hI1.cell (cell_of_see e4 rfl)) (hI1.cell (cell_of_see e5 rfl))) (fun _ _ => trivial) (fun _ _ _ _ _ _ _ _ => trivial) (Below.refl _ _) (fun _ => rfl)
    (fun (pre : List Int) W => ∃ V' x q, q.map Prod.snd = pre ∧ NewI V B s bad pages V' x q ∧ V'.In W ∧ Fr V w V' W ∧ ∀ i o, W1.heap.size ≤ i → V'.see i = some o → o.isCells = true)
    (fun _ _ _ => False)
    (by
      rintro pre A A' row ⟨V', x, q, h1, h2, h3, h4, h5⟩ hg hr
      exact ⟨V', x, q, h1, h2, In_grown h3 h5 hg hr, Fr_grown h4 hg (fun r e => by have := (hr r e).1; omega), h5⟩)
    (fun _ _ _ _ _ h _ _ => h) ⟨V1, _, [], rfl, hN1, hI1, hF1, hC1⟩
    (fun x => { tmps := #[.int .i64 blocks, .int .i64 pages, .slice s.a s.n s.c, undef, .pointer (some ⟨B, 0, none⟩), .pointer (some ⟨B + 1, 0, none⟩), .pointer none, .pointer (some ⟨B + 1 + 1 + 1, 0, none⟩), .int .i64 x, .int .i64 blocks, .bool false, .bool false, .int .i64 blocks, .bool false, .bool false, .bool false, .int .i64 pages, .bool false, .bool false, .bool false, .int .i64 pages, .bool false, .bool false, .int .i64 pages,
      .agg #[.slice none 0 0, .int .i64 pages, .int .i64 0, .int .i64 0, .int .i64 0, .int .i64 (-1), .int .i64 (-1), .int .i64 (-1), .int .i64 0, .bool false], .pointer (some ⟨B + 1 + 1, 0, none⟩), .int .i64 blocks, .func (.func 100) #[] #[.pointer (some ⟨B + 1 + 1 + 1 + 1, 0, none⟩), .pointer (some ⟨B + 1 + 1 + 1 + 1 + 1, 0, none⟩)], .int .i64 x,
      undef, undef, undef, undef, undef, undef, undef, undef, undef, undef, undef, undef, undef, undef, undef, undef], defers := [] }) ?assign ?body ?done ?stop
  case assign =>
    intro l x W K hK
    gi_wp2
    exact hK
  case body =>
    rintro l pre x W ⟨V', y, q, rfl, h2, h3, h4, h5⟩ hlen
    rw [List.length_map] at hlen
    have hN := h2
    have hx := newR_ok (u := fun t => (#[.int .i64 blocks, .int .i64 pages, .slice s.a s.n s.c, undef, undef, undef, .pointer none, undef, undef, .int .i64 blocks, .bool false, .bool false, .int .i64 blocks, .bool false, .bool false, .bool false, .int .i64 pages, .bool false, .bool false, .bool false, .int .i64 pages, .bool false, .bool false, .int .i64 pages,
      .agg #[.slice none 0 0, .int .i64 pages, .int .i64 0, .int .i64 0, .int .i64 0, .int .i64 (-1), .int .i64 (-1), .int .i64 (-1), .int .i64 0, .bool false], .pointer (some ⟨B + 1 + 1, 0, none⟩), .int .i64 blocks, .func (.func 100) #[] #[.pointer (some ⟨B + 1 + 1 + 1 + 1, 0, none⟩), .pointer (some ⟨B + 1 + 1 + 1 + 1 + 1, 0, none⟩)], .int .i64 x] : Array Value).toList.getD t undef) (i := x) hs hp1 hN (by omega) hVB
    have hX := X_soundR (V0 := V') (w0 := W) (wr := false) l 3 Tryz.checked.mixed r21_ac _ _ V' _ _ W (by kernel_rfl) (start_agr' rfl) ⟨h3, Fr.refl _ _, ⟨by intro i b hb; simp [startX] at hb, by intro i b cs hb; simp [startX] at hb, by intro i j b c hb; simp [startX] at hb⟩⟩ (r21_x hx)
    refine wpIn_mono hX ?_
    rintro e a W3 hq
    cases e with
    | normal =>
      obtain ⟨st', V3, _, k1, _, y3, p3, k2⟩ := hq
      refine ⟨⟨k1.fr.size, fun k o hk ho hc => ?_⟩, trivial, V3.onlyC W1.heap.size, y3, q ++ [(p3, x)], by simp, k2.only (by omega), (onlyC_le _ _).In k1.isIn, Fr_only (h4.trans k1.fr) _, fun i o hi ho => onlyC_cells hi ho⟩
      have hn : V'.see k = none := by
        cases hs : V'.see k with
        | none => rfl
        | some o' =>
          have e1 := h3.see _ _ hs
          rw [ho] at e1
          cases e1
          have := h5 k o hk hs
          rw [hc] at this; cases this
      rw [(k1.fr.hid k (Array.getElem?_eq_some_iff.1 ho).1 hn).2]; exact ho
    | exit id => obtain ⟨st', V3, _, k1, _, k2⟩ := hq; exact k2.elim
    | ret => obtain ⟨st', V3, _, k1, _, k2⟩ := hq; exact k2.elim
    | _ => exact hq.elim
  case done =>
    rintro D xs W hD rfl ⟨V', x, q, h1, h2, h3, h4, h5⟩ hK
    have c3 : W.cell? ⟨B + 1 + 1 + 1, 0, none⟩ = some (.pointer (some ⟨B + 2, 0, none⟩)) := h3.cell (cell_of_see ((View.minus_le _ _).see _ _ h2.b3) rfl)
    gi_wp2
    refine ⟨by simp, .inl ⟨_, _, rfl, run_takeDeferred hK, ?_⟩⟩
    have hDn : ∃ o : Obj, W.heap[D]? = some o ∧ o.isCells = false := ⟨_, hK, rfl⟩
    refine ⟨_, results_tmp rfl _ _ _, _, V', rfl, In_grown h3 h5 (grownBy_putObj' W D (.deferred none)) ?_, Fr_grown h4 (grownBy_putObj' W D (.deferred none)) ?_, B, x, q, rfl, h1, hVB, h2⟩
    · rintro r e; cases e; exact ⟨hD, hDn⟩
    · rintro r e; cases e; omega
  case stop =>
    rintro D c pre W _ _ h _
    exact h.elim
end Go.Proofs.YtgkmcnafkhdlnaaGreat
/- A pool that every program must know. -/
namespace Go.Proofs.YtgkmcnafkhdlnaaGreat
open Go
theorem u8_rowP {V : View} {x : Sl} {l : List UInt8} (h : SlR V x l) : rowAt V x.a x.n (bytesV ⟨l.toArray⟩) := by
  have := h.row8
  rw [Nat.mul_one] at this
  have e : bytesV ⟨l.toArray⟩ = u8s l := by simp [bytesV, u8s]
  rw [e]; exact this
theorem newC_snd (pages : Nat) (bad : List Int) (q : List (Nat × Int)) : (newC pages bad q).bl.map Prod.snd = q.map fun p => blk0 pages (decide (p.2 ∈ bad)) := by
  unfold newC; simp
theorem repL_nils {W : View} : ∀ n : Nat, repL W (List.replicate n (.slice none 0 0)) (List.replicate n ([] : List UInt8))
  | 0 => rfl
  | n + 1 => ⟨[.slice none 0 0], List.replicate n (.slice none 0 0), rfl, ⟨⟨none, 0, 0⟩, rfl, SlR.nil _ _ _⟩, repL_nils n⟩
theorem NewI.chip {V V' : View} {B pages : Nat} {s x : Sl} {bad : List Int} {q : List (Nat × Int)} (h : NewI V B s bad pages V' x q) (hp : pages ≤ 32) (hB : V.size ≤ B) :
    ChipR V' (ChipO (B + 2) x (newC pages bad q)) (B + 2) x (newC pages bad q) ∧ V.Le V' ∧ (∀ i, ChipO (B + 2) x (newC pages bad q) i → V.see i = none) := by
  have hV : V.Le V' := h.le.trans (View.minus_le _ _)
  have mem : ∀ p ∈ (newC pages bad q).bl, ∃ p' ∈ q, p.1 = p'.1 ∧ p.2.pages = List.replicate pages [] := by
    intro p hp
    obtain ⟨p', hp', rfl⟩ := List.mem_map.1 hp
    exact ⟨p', hp', rfl, rfl⟩
  obtain ⟨cs, h1, h2⟩ := h.row
  refine ⟨⟨(View.minus_le _ _).see _ _ h.box, ⟨cs, h1, repL_any h2⟩, fun p hp => ?_, .inl rfl, fun a ha => ⟨.inr (.inl ⟨a, ha, rfl⟩), minus_ne h.box a ha, fun p hp => ?_⟩, fun p hp' => ⟨.inr (.inr ⟨p, hp', rfl⟩), ?_⟩, ?_, hp, by show (q.map _).length ≤ 64; rw [List.length_map]; exact h.len⟩, hV, ?_⟩
  · obtain ⟨p', hp', e1, e2⟩ := mem p hp
    rw [e1, e2]
    exact ⟨_, (View.minus_le _ _).see _ _ (h.pgs p' hp').1, repL_nils _, List.length_replicate⟩
  · obtain ⟨p', hp', e1, _⟩ := mem p hp
    rw [e1]; exact (minus_ne (h.pgs p' hp').1 a ha).symm
  · obtain ⟨p'', hp'', e1, _⟩ := mem p hp'
    rw [e1]; exact (h.pgs p'' hp'').2.1
  · show ((q.map _).map Prod.fst).Nodup
    rw [List.map_map]
    exact h.nd
  · rintro i (rfl | ⟨a, ha, rfl⟩ | ⟨p, hp, rfl⟩)
    · exact View.see_none_of_ge (by omega)
    · cases hs : V.see a.block with
      | none => rfl
      | some o => exact absurd rfl (minus_ne (h.le.see _ _ hs) a ha)
    · obtain ⟨p', hp', e1, _⟩ := mem p hp
      rw [e1]; exact (h.pgs p' hp').2.2
theorem newC_quiet {pages : Nat} (q : List (Nat × Int)) : Quiet (newC pages [] q) := by
  refine ⟨rfl, rfl, rfl, ⟨by simp [newC], by simp [newC]⟩, ⟨by simp [newC], by simp [newC]⟩, fun p hp => ?_⟩
  obtain ⟨p', hp', rfl⟩ := List.mem_map.1 hp
  refine ⟨by simp [blk0], rfl, Int.le_refl 0, by show (0 : Int) ≤ (pages : Int); omega, List.length_replicate, fun b hb => ?_⟩
  rw [List.eq_of_mem_replicate hb]; simp
/-- Where nothing was programmed, all is clean. -/
theorem cleansU_new {pages : Nat} {q : List (Nat × Int)} : ∀ k, k ≤ q.length → cleansU ((newC pages [] q).bl.map Prod.snd) k = (List.range k).map fun (i : Nat) => (i : Int)
  | 0, _ => rfl
  | k + 1, h => by
    rw [cleansU_succ, cleansU_new k (by omega), List.range_succ, List.map_append, if_pos]
    · rfl
    · rw [newC_snd, List.getD_eq_getElem?_getD, List.getElem?_map, List.getElem?_eq_getElem (show k < q.length by omega)]
      simp [cleanB, blk0]
/-- Bytes that a literal lays. -/
theorem litRow {V : View} {O : Nat → Prop} {r : Nat} {l : List UInt8} {te : TypeId} {f : Nat × Nat} (h : V.see r = some (.cells ⟨u8s l⟩ te f)) (hr : ¬ O r) (hl : l.length ≤ 1000000) : SlR (V.sans O) ⟨some ⟨r, 0, none⟩, l.length, l.length⟩ l := by
  refine ⟨rfl, Nat.le_refl _, by show l.length ≤ _; omega, fun i hi => ⟨_, [.int .u8 l[i].toNat], rfl, cellsAt_one.2 ?_, rfl⟩⟩
  rw [addr0_add]
  refine cell_of_see (by rw [sans_no hr]; exact h) ?_
  show (u8s l)[0 + i * 1]? = _
  unfold u8s
  rw [List.getElem?_map, Nat.zero_add, Nat.mul_one, List.getElem?_eq_getElem hi]; rfl
theorem litRef {V : View} {O : Nat → Prop} {r : Nat} {x : Rf} {te : TypeId} (h : V.see r = some (.cells ⟨[.int .i64 x.page, .int .i64 x.seq]⟩ te (0, 0))) (hr : ¬ O r) (h1 : inI .i64 x.page) (h2 : inI .i64 x.seq) : SlR (V.sans O) ⟨some ⟨r, 0, none⟩, 1, 1⟩ [x] := by
  have hb : Buf (V.sans O) ⟨some ⟨r, 0, none⟩, 1, 1⟩ te 2 [.int .i64 x.page, .int .i64 x.seq] := ⟨rfl, Nat.le_refl _, by show 1 ≤ _; omega, .inr ⟨r, _, rfl, by rw [sans_no hr]; exact h, rfl, rfl⟩⟩
  exact Buf.slR (α := Rf) (W := V.sans O) hb ⟨_, [], rfl, ⟨rfl, h1, h2⟩, rfl⟩ (View.Le.refl _)
theorem not_own {V : View} {O : Nat → Prop} {r : Nat} (hO : ∀ i, O i → V.see i ≠ none) (hr : V.see r = none) : ¬ O r := fun h => hO r h hr
def g0 : Cfg := ⟨6, 4, 1, 4, 3⟩
theorem awake10_ok {V : View} : CallV Tryz.prog 10 ⟨[]⟩ V fun r V' => r = .bool true ∧ V.Le V' := by
  refine f10_x (_u := ()) ?_
  unfold f10_n
  intro _
  refine (chipNew_ok (blocks := 6) (pages := 4) (s := ⟨none, 0, 0⟩) (bad := []) (SlR.nil V none 0) (by omega) (by omega) (by omega) (by omega)).mono ?_
  rintro r V1 ⟨B, x, q, rfl, hq6, hB, hN⟩
  obtain ⟨hc1, hV1, hno1⟩ := hN.chip (by omega) hB
  have hql : q.length = 6 := by have := congrArg List.length hq6; rw [List.length_map, uptoZ_len] at this; exact this
  have hqt := newC_quiet (pages := 4) q
  have hbl : (newC 4 [] q).bl.length = 6 := by show (q.map _).length = 6; rw [List.length_map]; exact hql
  refine ⟨_, rfl, (open_ok (g := g0) (seq := 0) hc1 (fun i hi => hc1.seen hi) hqt (by omega) (by rw [hbl]; rfl) rfl (by decide) (by omega) (by omega)).mono ?_⟩
  rintro r V2 ⟨p, t, ra, rb, rfl, h2, hV2, hno2⟩
  -- what is written first
  have nx0 : ∀ (i : Nat) (hi : i < (newC 4 [] q).bl.length), (newC 4 [] q).bl[i].2.nxt = 0 ∧ (newC 4 [] q).bl[i].2.pages = List.replicate 4 [] := by
    intro i hi
    obtain ⟨p', _, e⟩ := List.mem_map.1 (List.getElem_mem hi)
    rw [← e]; exact ⟨rfl, rfl⟩
  have hcl : (cleansU ((newC 4 [] q).bl.map Prod.snd) (newC 4 [] q).bl.length).length = 6 := by
    rw [cleansU_new _ (by rw [hbl, hql]; exact Nat.le_refl _), hbl]; rfl
  have hnu : ¬ usable (newC 4 [] q) (-1) := by rintro ⟨i, e, _⟩; omega
  refine ⟨_, _, rfl, fun r3 hr3 => ⟨⟨[.int .u8 120]⟩, 5, View.see_put_same _ _ _, ?_⟩⟩
  have hf3 : V2.see r3 = none := View.see_none_of_ge hr3
  rw [View.put_put]
  have hle3 := View.put_le (o := .cells ⟨[.int .u8 120]⟩ 5 (1, 2)) hf3
  have hs3 : (V2.put r3 (.cells ⟨[.int .u8 120]⟩ 5 (1, 2))).see r3 = some (.cells ⟨u8s [120]⟩ 5 (1, 2)) := View.see_put_same _ _ _
  have h3 := h2.le hle3
  have hO3 := not_own h2.seen hf3
  have m3 : MayS 3 ((0 : Int) + 1) [120] := mayS_iff.1 (by kernel_rfl)
  refine (polPut_ok (s := ⟨some ⟨r3, 0, none⟩, 1, 1⟩) (d := [120]) (page := 3) h3 hqt (by decide) rfl (by show 1 ≤ 4; omega) (.inl rfl) (fun _ => by rw [hcl]; decide) (by show (0 : Int) < _; omega) ⟨by show (0 : Int) ≤ 0; omega, by show (0 : Int) ≤ _; omega⟩ ⟨by decide, by decide⟩ (by decide) (by simp) (litRow hs3 hO3 (by decide)) m3 (by decide)).mono ?_
  rintro r V4 ⟨rfl, i, hi, f, hgo, _, h4, w4, sub4⟩
  obtain ⟨hn0, hp0⟩ := nx0 i hi
  have hqt4 := hqt.prog (b := laidS 3 ((0 : Int) + 1) [120]) hi (by rw [hn0]; show (0 : Int) < (4 : Int); omega) m3.ll (by show (0 : Int) < _; omega)
  have hT4 : putT (3, (0 : Int) + 1) ((i : Int), (newC 4 [] q).bl[i].2.nxt) [] = [((3, 1), ((i : Int), 0))] := by
    rw [hn0]; simp [putT, canP, onP, lookP, swapL, delP]
  have hi4 : i < (progC (newC 4 [] q) i (laidS 3 ((0 : Int) + 1) [120]) hi).bl.length := by
    show i < ((newC 4 [] q).bl.set i _).length
    rw [List.length_set]; exact hi
  have e4 : (progC (newC 4 [] q) i (laidS 3 ((0 : Int) + 1) [120]) hi).bl[i] = ((newC 4 [] q).bl[i].1, { (newC 4 [] q).bl[i].2 with nxt := (newC 4 [] q).bl[i].2.nxt + 1, pages := (newC 4 [] q).bl[i].2.pages.set (newC 4 [] q).bl[i].2.nxt.toNat (laidS 3 ((0 : Int) + 1) [120]) }) := List.getElem_set_self _
  have n4 : (progC (newC 4 [] q) i (laidS 3 ((0 : Int) + 1) [120]) hi).bl[i].2.nxt = 1 := by rw [e4]; show _ + 1 = _; rw [hn0]; rfl
  have p4 : (progC (newC 4 [] q) i (laidS 3 ((0 : Int) + 1) [120]) hi).bl[i].2.pages = [laidS 3 ((0 : Int) + 1) [120], [], [], []] := by
    rw [e4]; show List.set _ _ _ = _; rw [hn0, hp0]; rfl
  have u4 : usable (progC (newC 4 [] q) i (laidS 3 ((0 : Int) + 1) [120]) hi) (i : Int) := ⟨i, rfl, hi4, by rw [n4]; show (1 : Int) < (4 : Int); omega⟩
  have len4 : (progC (newC 4 [] q) i (laidS 3 ((0 : Int) + 1) [120]) hi).bl.length = 6 := by
    show ((newC 4 [] q).bl.set i _).length = 6
    rw [List.length_set]; exact hbl
  have pr4 : (progC (newC 4 [] q) i (laidS 3 ((0 : Int) + 1) [120]) hi).progs < 1000000 := by show (0 : Int) + 1 < _; omega
  have pg4 : (progC (newC 4 [] q) i (laidS 3 ((0 : Int) + 1) [120]) hi).pages = 4 := rfl
  simp only [hT4, List.nil_append] at h4
  generalize progC (newC 4 [] q) i (laidS 3 ((0 : Int) + 1) [120]) hi = C4 at *
  -- the root
  refine ⟨_, _, _, rfl, fun _ r5 hr5 => ⟨⟨[.int .u8 114, .int .u8 111, .int .u8 111, .int .u8 116]⟩, 5, View.see_put_same _ _ _, fun r6 hr6 => ?_⟩⟩
  rw [View.put_put] at hr6 ⊢
  have hf5 : V4.see r5 = none := View.see_none_of_ge hr5
  have hle5 := View.put_le (o := .cells ⟨[.int .u8 114, .int .u8 111, .int .u8 111, .int .u8 116]⟩ 5 (4, 5)) hf5
  have hs5 : (V4.put r5 (.cells ⟨[.int .u8 114, .int .u8 111, .int .u8 111, .int .u8 116]⟩ 5 (4, 5))).see r5 = some (.cells ⟨u8s [114, 111, 111, 116]⟩ 5 (4, 5)) := View.see_put_same _ _ _
  have hf6 : (V4.put r5 (.cells ⟨[.int .u8 114, .int .u8 111, .int .u8 111, .int .u8 116]⟩ 5 (4, 5))).see r6 = none := View.see_none_of_ge hr6
  have hle6 := View.put_le (o := .cells ⟨[.int .i64 3, .int .i64 ((0 : Int) + 1)]⟩ 33 (0, 0)) hf6
  have hs5' := hle6.see _ _ hs5
  have hs6 : ((V4.put r5 (.cells ⟨[.int .u8 114, .int .u8 111, .int .u8 111, .int .u8 116]⟩ 5 (4, 5))).put r6 (.cells ⟨[.int .i64 3, .int .i64 ((0 : Int) + 1)]⟩ 33 (0, 0))).see r6 = some (.cells ⟨[.int .i64 (⟨3, 1⟩ : Rf).page, .int .i64 (⟨3, 1⟩ : Rf).seq]⟩ 33 (0, 0)) := View.see_put_same _ _ _
  have h6 := h4.le (hle5.trans hle6)
  have hO5 := not_own h4.seen hf5
  have hO6 : ¬ swapO (fun i => ChipO (B + 2) x (newC 4 [] q) i ∨ PolO ⟨p, B + 2, t, ra, rb, x, ⟨none, 0, 0⟩⟩ i) ⟨none, 0, 0⟩ f r6 := fun hh => seen_le hle5 h4.seen _ hh hf6
  have m6 : MayS 0 ((0 : Int) + 1 + 1) [114, 111, 111, 116] := mayS_iff.1 (by kernel_rfl)
  refine (seal_ok (s := ⟨some ⟨r5, 0, none⟩, 4, 4⟩) (l := ⟨some ⟨r6, 0, none⟩, 1, 1⟩) (d := [114, 111, 111, 116]) (live := [⟨3, 1⟩]) h6 hqt4 (by show (0 : Int) ≤ 1; decide) (by rw [pg4]; rfl) (by rw [pg4]; omega) (.inr ⟨i, rfl, hi4⟩) (fun hh => absurd u4 hh) pr4 ⟨by show (0 : Int) ≤ 0 + 1; omega, by show (0 : Int) + 1 ≤ _; omega⟩ (by simp) (litRow hs5' hO5 (by decide)) (litRef hs6 hO6 (inI64 (by decide) (by decide)) (inI64 (by decide) (by decide))) m6 rfl).mono ?_
  rintro r V7 ⟨rfl, i', hi', hgo', _, h7, w7, sub7⟩
  have ei : i' = i := by
    rcases hgo' with ⟨_, e⟩ | ⟨e, _⟩
    · have e : (i : Int) = (i' : Int) := e
      omega
    · exact absurd u4 e
  subst ei
  have hqt7 := hqt4.prog (b := laidS 0 ((0 : Int) + 1 + 1) [114, 111, 111, 116]) hi4 (by rw [n4, pg4]; omega) m6.ll pr4
  have e7 : (progC C4 i' (laidS 0 ((0 : Int) + 1 + 1) [114, 111, 111, 116]) hi4).bl[i']? = some (C4.bl[i'].1, { C4.bl[i'].2 with nxt := C4.bl[i'].2.nxt + 1, pages := C4.bl[i'].2.pages.set C4.bl[i'].2.nxt.toNat (laidS 0 ((0 : Int) + 1 + 1) [114, 111, 111, 116]) }) := List.getElem?_set_self hi4
  have hi7 : i' < (progC C4 i' (laidS 0 ((0 : Int) + 1 + 1) [114, 111, 111, 116]) hi4).bl.length := by
    show i' < (C4.bl.set i' _).length
    rw [List.length_set]; exact hi4
  have p7 : (progC C4 i' (laidS 0 ((0 : Int) + 1 + 1) [114, 111, 111, 116]) hi4).bl[i'].2.pages[0]? = some (laidS 3 ((0 : Int) + 1) [120]) := by
    rw [List.getElem?_eq_getElem hi7] at e7
    rw [Option.some.inj e7]
    show (C4.bl[i'].2.pages.set C4.bl[i'].2.nxt.toNat _)[0]? = _
    rw [n4, p4]; rfl
  have pg7 : (progC C4 i' (laidS 0 ((0 : Int) + 1 + 1) [114, 111, 111, 116]) hi4).pages = 4 := pg4
  have hT7 : keepT (0, (0 : Int) + 1 + 1) [⟨3, 1⟩] (putT (0, (0 : Int) + 1 + 1) ((i' : Int), C4.bl[i'].2.nxt) [((3, 1), ((i' : Int), 0))]) = [((3, 1), ((i' : Int), 0)), ((0, 2), ((i' : Int), 1))] := by
    rw [n4]; simp [putT, canP, onP, lookP, swapL, delP, keepT]
  simp only [hT7] at h7
  generalize progC C4 i' (laidS 0 ((0 : Int) + 1 + 1) [114, 111, 111, 116]) hi4 = C7 at *
  refine ⟨_, rfl, (polRead_ok (r := (3, 1)) (i := i') (j := 0) h7 hqt7 rfl hi7 (by rw [pg7]; omega) p7 (parseS_laidS m3)).mono ?_⟩
  rintro r V8 ⟨y, rfl, hy, h8, w8⟩
  -- nothing that was there has turned
  have hle : V.Le V8 := by
    have go : ∀ {O : Nat → Prop} {W W' : View}, (∀ i, O i → V.see i = none) → V.Le W → Wr O W W' → V.Le W' := fun hO hW w => ((Wr.of hW).trans w).le hO
    have un : ∀ {W : View} {i : Nat}, V.Le W → W.see i = none → V.see i = none := fun {W i} hW hi => by
      cases hs : V.see i with
      | none => rfl
      | some o => rw [hW.see _ _ hs] at hi; cases hi
    have no2 : ∀ i, (ChipO (B + 2) x (newC 4 [] q) i ∨ PolO ⟨p, B + 2, t, ra, rb, x, ⟨none, 0, 0⟩⟩ i) → V.see i = none := fun i hi => hi.elim (hno1 i) fun hi => un hV1 (hno2 i hi)
    have l3 := (hV1.trans hV2).trans hle3
    have l4 := go no2 l3 w4
    have no4 := fun i (hi : swapO _ _ f i) => (sub4 i hi).elim (no2 i) (un l3)
    have l6 := l4.trans (hle5.trans hle6)
    have l7 := go no4 l6 w7
    exact go (fun i hi => (sub7 i hi).elim (no4 i) (un l6)) l7 w8
  have hyr := u8_rowP hy
  refine ⟨y, _, rfl, joinP_cut (fun z V' => z.1 = true ∧ V.Le V') (br_intro (fun _ => ⟨trivial, br_intro (fun _ => ⟨_, hyr, br_intro (fun _ => (polLive_ok h8 rfl (by show (2 : Nat) ≤ 1000000; decide)).mono ?_) (fun h0 => ?_)⟩) (fun h0 => by cases h0)⟩) (fun h0 => by cases h0)) (fun z V' hz => ?_)⟩
  · rintro r V9 ⟨z, rfl, hzn, hV9⟩
    have hzn : z.n = 2 := hzn
    refine ⟨z, rfl, br_intro (fun _ => (polSeq_ok (h8.le hV9)).mono ?_) (fun h0 => ?_)⟩
    · rintro r V10 ⟨rfl, rfl⟩
      exact ⟨_, rfl, rfl, hle.trans hV9⟩
    · rw [hzn] at h0; simp at h0
  · exact absurd h0 (by decide)
  · rcases z with ⟨z, ⟨⟩⟩
    obtain ⟨hz, hV⟩ := hz
    try simp only at hz
    dsimp only [unc]
    exact ⟨by rw [hz], hV⟩
end Go.Proofs.YtgkmcnafkhdlnaaGreat
/- PoolNil. -/
namespace Go.Proofs.YtgkmcnafkhdlnaaGreat
open Go Go.RowKit Go.Shelf
attribute [local go_sem] Oper.semAt_some
/-- What runs through on a world that it only adds to. -/
theorem CallV.ofGrow {f : FuncId} {fn : Func} {args : Array Value} {V : View} {v : Value} (he : Enters Tryz.prog f) (h : ∀ w, Calls Tryz.prog f args w fun e w' => e = .returned v ∧ Below w.heap.size w w' ∧ World.outer w' = World.outer w) : CallV Tryz.prog f args V fun r V' => r = v ∧ V' = V :=
  ⟨he, fun w hw => (h w).mono fun e w' ⟨h1, h2, h3⟩ => ⟨v, V, h1, ⟨Nat.le_trans hw.size h2.size, fun i o hi => (h2.block _ (Nat.lt_of_lt_of_le (V.lt i o hi) hw.size)).trans (hw.see i o hi), h3.trans hw.out⟩, ⟨h2.size, fun i hi hn => ⟨hn, h2.block _ hi⟩, fun e => e.elim⟩, rfl, rfl⟩⟩
set_option maxRecDepth 100000 in
set_option maxHeartbeats 4000000 in
theorem chipNewNil_ok {V : View} {s : Sl} {blocks pages : Int} (h : blocks < 1 ∨ 64 < blocks ∨ pages < 1 ∨ 32 < pages) : CallV Tryz.prog 21 ⟨[.int .i64 blocks, .int .i64 pages, .slice s.a s.n s.c]⟩ V fun r V' => r = .pointer none ∧ V' = V := by
  refine CallV.ofGrow (fn := Tryz.f21) (enters_of (fn := Tryz.f21) (by kernel_rfl) (by kernel_rfl) (by kernel_rfl)) fun w => ?_
  refine (callsIn_wide (n := 5)).1 (callsIn_of_wp Tryz.func21 rfl trivial ?_ rfl)
  simp only [Tryz.ntmps21, List.size_toArray, List.length_cons, List.length_nil, Nat.reduceAdd, Nat.reduceSub, Array.replicate_succ, Array.replicate_zero, List.push_toArray, List.append_toArray, List.nil_append, List.cons_append]
  have fin : Below w.heap.size w ((w.alloc (Obj.cells #[Value.int IntKind.i64 pages] 3)).alloc (Obj.cells #[Value.slice s.a s.n s.c] 72)) := ((Below.refl _ w).alloc (Nat.le_refl _) _).alloc (by simp) _
  by_cases h1 : blocks < 1
  · gi_wp2
    refine bodyPost_ret (results_tmp rfl _ _ _) rfl ?_
    exact ⟨rfl, fin, rfl⟩
  by_cases h2 : 64 < blocks
  · gi_wp2
    refine bodyPost_ret (results_tmp rfl _ _ _) rfl ?_
    exact ⟨rfl, fin, rfl⟩
  by_cases h3 : pages < 1
  · gi_wp2
    refine bodyPost_ret (results_tmp rfl _ _ _) rfl ?_
    exact ⟨rfl, fin, rfl⟩
  have h4 : 32 < pages := by omega
  gi_wp2
  refine bodyPost_ret (results_tmp rfl _ _ _) rfl ?_
  exact ⟨rfl, fin, rfl⟩
set_option maxHeartbeats 4000000 in
/-- (*Pool).New of none. -/
theorem polNewNil_ok {V : View} : CallV Tryz.prog 17 ⟨[.pointer none]⟩ V fun r V' => r = .slice none 0 0 ∧ V' = V := by
  refine CallV.ofGrow (fn := Tryz.f17) (enters_of (fn := Tryz.f17) (by kernel_rfl) (by kernel_rfl) (by kernel_rfl)) fun w => ?_
  refine (callsIn_wide (n := 5)).1 (callsIn_of_wp Tryz.func17 rfl trivial ?_ rfl)
  simp only [Tryz.ntmps17, List.size_toArray, List.length_cons, List.length_nil, Nat.reduceAdd, Nat.reduceSub, Array.replicate_succ, Array.replicate_zero, List.push_toArray, List.append_toArray, List.nil_append, List.cons_append]
  gi_wp2
  refine bodyPost_ret (results_tmp rfl _ _ _) rfl ?_
  exact ⟨rfl, Below.refl _ _, rfl⟩
/-! ### none -/
theorem undoNil_ok {V : View} : CallV Tryz.prog 11 ⟨[.pointer none]⟩ V fun r V' => r = .tuple ⟨[]⟩ ∧ V' = V := by
  refine f11_x ?_
  unfold f11_n
  exact br_intro (fun _ => ⟨rfl, rfl⟩) (fun h => by cases h)
theorem putNil_ok {V : View} {page : Int} {s : Sl} : CallV Tryz.prog 12 ⟨[.pointer none, .int .i64 page, .slice s.a s.n s.c]⟩ V fun r V' => r = .tuple ⟨[.agg ⟨[.int .i64 0, .int .i64 0]⟩, .int .i64 1]⟩ ∧ V' = V := by
  refine f12_x ?_
  unfold f12_n
  intro _
  refine joinP_cut (fun z V' => z.1 = true ∧ V' = V) (br_intro (fun _ => ⟨rfl, rfl⟩) (fun h => by cases h)) (fun z V' hz => ?_)
  rcases z with ⟨z, ⟨⟩⟩
  obtain ⟨hz, rfl⟩ := hz
  try simp only at hz
  dsimp only [unc]
  rw [hz]
  exact br_intro (fun _ => ⟨rfl, rfl⟩) (fun h => by cases h)
theorem readNil_ok {V : View} {r : P2} : CallV Tryz.prog 13 ⟨[.pointer none, encP r]⟩ V fun rr V' => rr = .tuple ⟨[.slice none 0 0, .int .i64 1]⟩ ∧ V' = V := by
  refine f13_x ?_
  unfold f13_n
  intro _
  exact br_intro (fun _ => ⟨rfl, rfl⟩) (fun h => by cases h)
theorem sealNil_ok {V : View} {s l : Sl} : CallV Tryz.prog 15 ⟨[.pointer none, .slice s.a s.n s.c, .slice l.a l.n l.c]⟩ V fun rr V' => rr = .int .i64 1 ∧ V' = V := by
  refine f15_x ?_
  unfold f15_n
  exact br_intro (fun _ => ⟨rfl, rfl⟩) (fun h => by cases h)
theorem liveNil_ok {V : View} : CallV Tryz.prog 16 ⟨[.pointer none]⟩ V fun rr V' => rr = .slice none 0 0 ∧ V.Le V' := by
  refine f16_x ?_
  unfold f16_n
  intro b hb
  exact ⟨none, cell_of_see (View.see_put_same _ _ _) rfl, br_intro (fun _ => ⟨rfl, View.put_le hb⟩) (fun h => by cases h)⟩
theorem seqNil_ok {V : View} : CallV Tryz.prog 18 ⟨[.pointer none]⟩ V fun rr V' => rr = .int .i64 0 ∧ V' = V := by
  refine f18_x ?_
  unfold f18_n
  exact br_intro (fun _ => ⟨rfl, rfl⟩) (fun h => by cases h)
theorem badsNil_ok {V : View} : CallV Tryz.prog 19 ⟨[.pointer none]⟩ V fun rr V' => rr = .int .i64 0 ∧ V' = V := by
  refine f19_x ?_
  unfold f19_n
  exact br_intro (fun _ => ⟨rfl, rfl⟩) (fun h => by cases h)
theorem overNil_ok {V : View} : CallV Tryz.prog 20 ⟨[.pointer none]⟩ V fun rr V' => rr = .bool false ∧ V' = V := by
  refine f20_x ?_
  unfold f20_n
  refine joinP_cut (fun z V' => z.1 = false ∧ V' = V) ⟨trivial, V, View.Le.refl _, br_intro (fun h => by cases h) (fun _ => ⟨rfl, rfl⟩)⟩ (fun z V' hz => ?_)
  rcases z with ⟨z, ⟨⟩⟩
  obtain ⟨hz, rfl⟩ := hz
  try simp only at hz
  dsimp only [unc]
  exact ⟨by rw [hz], rfl⟩
theorem blocksNil_ok {V : View} : CallV Tryz.prog 28 ⟨[.pointer none]⟩ V fun rr V' => rr = .slice none 0 0 ∧ V' = V := by
  refine f28_x ?_
  unfold f28_n
  exact br_intro (fun _ => ⟨rfl, rfl⟩) (fun h => by cases h)
theorem openNil_ok {V : View} {g : Cfg} {bad seq : Int} {s : Sl} : CallV Tryz.prog 14 ⟨[.pointer none, cfgV g, .int .i64 bad, .slice s.a s.n s.c, .int .i64 seq]⟩ V fun rr V' => rr = .tuple ⟨[.pointer none, .int .i64 1]⟩ ∧ V' = V := by
  refine f14_x ?_
  unfold f14_n
  intro _
  refine blocksNil_ok.mono ?_
  rintro r V1 ⟨rfl, rfl⟩
  refine ⟨⟨none, 0, 0⟩, rfl, joinP_cut (fun z V' => z.1 = true ∧ V' = V1) ⟨trivial, V1, View.Le.refl _, br_intro (fun _ => ⟨rfl, rfl⟩) (fun h => by cases h)⟩ (fun z V' hz => ?_)⟩
  rcases z with ⟨z, ⟨⟩⟩
  obtain ⟨hz, rfl⟩ := hz
  try simp only at hz
  dsimp only [unc]
  rw [hz]
  exact br_intro (fun _ => ⟨rfl, rfl⟩) (fun h => by cases h)
theorem heavy10_ok {V : View} {g : Cfg} {r : Nat} {a b c d : Int} {s t : Sl} (h : V.see r = some (.cells ⟨[.int .i64 a, .int .i64 b, .int .i64 c, .int .i64 d, .slice s.a s.n s.c, .slice t.a t.n t.c]⟩ 27 (0, 0))) : CallV Tryz.prog 9 ⟨[cfgV g, .slice (some ⟨r, 0, none⟩) 1 1]⟩ V fun rr V' => (∃ x : Int, rr = .int .i64 x) ∧ V' = V := by
  refine f9_x (a1 := ⟨some ⟨r, 0, none⟩, 1, 1⟩) ?_
  unfold f9_n
  intro _
  refine br_intro (fun _ => ⟨⟨1, rfl⟩, rfl⟩) (fun _ => ?_)
  refine loop1 (k := .int .i64) (fun (i : Int) V' => 0 ≤ i ∧ V' = V) (fun (i : Int) _ => 1 - i.toNat) ⟨Int.le_refl _, rfl⟩ ?_
  rintro (i : Int) V' ⟨hi, rfl⟩
  refine br_intro (fun hlt => ?_) (fun _ => ⟨⟨0, rfl⟩, rfl⟩)
  have hlt : i < ((1 : Nat) : Int) := of_decide_eq_true hlt
  obtain rfl : i = 0 := by omega
  refine ⟨by omega, by show (0 : Int) < ((1 : Nat) : Int); omega, _, rfl, a, b, c, d, s, t, ?_, fun _ => br_intro (fun _ => ⟨inI64 (by omega) (by omega), ⟨_, rfl⟩, rfl⟩) (fun _ => ⟨inI64 (by omega) (by omega), ⟨by omega, rfl⟩, by omega⟩)⟩
  exact cellsAt_of_see h (fun j v hj => by simpa using hj)
/-! ### a pool that may not be -/
theorem wrong1_ok {V : View} {O : Nat → Prop} {c : Nat} {x s : Sl} {C : Chp} (h : ChipR V O c x C) (hO : ∀ i, O i → V.see i ≠ none) (hq : Quiet C) (h0 : 0 < C.bl.length) (hp : 0 < C.pages) (hb : C.bl[0].2.pages[0]? = some []) {l : PL} (hs : SlR V s (((1, 1), (0, 0)) :: l)) :
    CallV Tryz.prog 48 ⟨[.pointer (some ⟨c, 0, none⟩), .slice s.a s.n s.c]⟩ V fun rr V' => rr = .bool true ∧ Wr O V V' := by
  refine f48_x ?_
  unfold f48_n
  refine new_ok.mono ?_
  rintro r V1 ⟨t, ra, rb, rfl, ht, hV1, nt, na, nb⟩
  have hsn := hs.n
  have hsc := hs.c
  simp only [List.length_cons] at hsn
  refine ⟨_, rfl, loop1 (k := .int .i64) (fun (i : Int) V' => i = 0 ∧ V' = V1) (fun _ _ => 0) ⟨rfl, rfl⟩ ?_⟩
  rintro (i : Int) V' ⟨rfl, rfl⟩
  refine br_intro (fun _ => ?_) (fun hge => absurd (of_decide_eq_false hge) (by omega))
  obtain ⟨ad, _, ha, hc⟩ := (hs.mono hV1).fnd (x := 0) (by omega) (by omega)
  refine ⟨by omega, by omega, ad, ha, 1, 1, 0, 0, hc, fun b hbn => ⟨canSet_of (View.see_put_same _ _ _) (by simp), ?_⟩⟩
  have es : (V'.put b (.cells ⟨[.int .i64 0, .int .i64 0, .int .i64 0, .int .i64 0]⟩ 52)).sets ⟨b, 0, none⟩ [.int .i64 1, .int .i64 1, .int .i64 0, .int .i64 0] = V'.put b (.cells ⟨[.int .i64 1, .int .i64 1, .int .i64 0, .int .i64 0]⟩ 52) := by
    rw [sets_see (View.see_put_same _ _ _), View.put_put]; rfl
  rw [es]
  have hpl := View.put_le (o := .cells ⟨[.int .i64 1, .int .i64 1, .int .i64 0, .int .i64 0]⟩ 52) hbn
  have hbs : (V'.put b (.cells ⟨[.int .i64 1, .int .i64 1, .int .i64 0, .int .i64 0]⟩ 52)).see b = some (.cells ⟨[.int .i64 1, .int .i64 1, .int .i64 0, .int .i64 0]⟩ 52 (0, 0)) := View.see_put_same _ _ _
  have hV2 := hV1.trans hpl
  have ht2 := ht.le hpl
  have nbv : V'.see b = none := hbn
  generalize V'.put b (.cells ⟨[.int .i64 1, .int .i64 1, .int .i64 0, .int .i64 0]⟩ 52) = V2 at *
  refine joinP_cut (fun z V3 => z.1 = false ∧ (V2.off ra rb).Le V3) ⟨by omega, by omega, by omega, ?_⟩ (fun z V3 hz => ?_)
  · -- none stands ahead of the first
    refine f88_x (a0 := ⟨if s.c = 0 then s.a else Option.map (fun (x : Addr) => x.add 0) s.a, (0 : Int).toNat - 0, s.c - 0⟩) (x1 := []) (y1 := [.pointer (some ⟨b, 0, none⟩)]) ?_
    unfold f88_n
    refine f92_x (a0 := ⟨if s.c = 0 then s.a else Option.map (fun (x : Addr) => x.add 0) s.a, (0 : Int).toNat - 0, s.c - 0⟩) (x1 := []) (y1 := [.pointer (some ⟨b, 0, none⟩)]) ?_
    unfold f92_n
    refine loop1 (k := .int .i64) (fun (i : Int) V' => i = 0 ∧ V' = V2) (fun _ _ => 0) ⟨rfl, rfl⟩ ?_
    rintro (i : Int) V3 ⟨rfl, rfl⟩
    refine br_intro (fun hlt => by cases hlt) (fun _ => ⟨_, rfl, _, rfl, br_intro (fun h => by cases h) (fun _ => ?_)⟩)
    refine ⟨1, 1, cellsAt_of_see hbs (fun j v hj => ?_), 0, 0, cellsAt_of_see hbs (fun j v hj => ?_), (put_ok ht2 (1, 1) (0, 0)).mono ?_⟩
    · rcases j with _ | _ | j <;> first
        | (simp at hj; done)
        | simpa using hj
    · rcases j with _ | _ | j <;> first
        | (simp at hj; done)
        | simpa using hj
    rintro r V4 ⟨rfl, _, h4⟩
    exact ⟨_, rfl, by simp [canP, onP, lookP, swapL], h4⟩
  rcases z with ⟨z, ⟨⟩⟩
  obtain ⟨hz, hV3⟩ := hz
  try simp only at hz
  dsimp only [unc]
  rw [hz]
  have w3 : Wr (fun i => i = ra ∨ i = rb) V2 V3 := Wr.off hV3
  have hbr : b ≠ ra ∧ b ≠ rb := by
    constructor
    · rintro rfl; obtain ⟨_, _, _, k, _⟩ := ht.ma.ex; rw [nbv] at k; cases k
    · rintro rfl; obtain ⟨_, _, _, k, _⟩ := ht.mb.ex; rw [nbv] at k; cases k
  have hbs3 := w3.rest _ _ (fun e => e.elim hbr.1 hbr.2) hbs
  have hVV : V.Le V3 := ((Wr.of hV2).trans w3).le (B := fun i => i = ra ∨ i = rb) (fun i hi => by rcases hi with rfl | rfl <;> assumption)
  have h3 := h.le hVV
  have hO3 := seen_le hVV hO
  obtain ⟨q1, q2, q3, q4, q5, q6⟩ := hq.bl _ (List.getElem_mem h0)
  refine br_intro (fun h => by cases h) (fun _ => ⟨0, 0, cellsAt_of_see hbs3 (fun j v hj => ?_), ?_⟩)
  · rcases j with _ | _ | j <;> first
      | (simp at hj; done)
      | simpa using hj
  refine f90_x ?_
  unfold f90_n
  intro _
  refine (down_ok h3).mono ?_
  rintro r V4 ⟨rfl, rfl⟩
  rw [hq.down]
  have hbe : C.bl[0].2.pages[0]'(by rw [q5]; exact hp) = [] := by
    rw [List.getElem?_eq_getElem (by rw [q5]; exact hp)] at hb; exact Option.some.inj hb
  refine ⟨_, rfl, br_intro (fun _ => (chipRead_ok (i := 0) (j := 0) h3 hO3 h0 hp q5 hq.down (inI64 (by have := hq.reads; omega) (by have := hq.reads; omega)) (by rw [hbe]; simp)).mono ?_) (fun h => by cases h)⟩
  rintro r V5 ⟨y, rfl, _, w5, hy, _⟩
  rw [hbe] at hy
  refine ⟨y, _, rfl, y, _, rfl, br_intro (fun h => by cases h) (fun _ => ?_)⟩
  have hpp := parse_ok (hy.mono (sans_le _ _)) (by simp)
  rw [parseS_nil] at hpp
  refine hpp.mono ?_
  rintro r V6 ⟨hV6, rfl⟩
  exact ⟨_, _, ⟨none, 0, 0⟩, _, rfl, fun _ => br_intro (fun _ => ⟨rfl, (((Wr.of hVV).trans (w5.imp fun i hi => by rw [hi]; exact h.oc)).trans (.of hV6))⟩) (fun h => by cases h)⟩
end Go.Proofs.YtgkmcnafkhdlnaaGreat
/- PoolNil, the law. -/
namespace Go.Proofs.YtgkmcnafkhdlnaaGreat
open Go
theorem openWrong_ok {V : View} {O : Nat → Prop} {c : Nat} {x s : Sl} {C : Chp} {g : Cfg} {seq : Int} (h : ChipR V O c x C) (hO : ∀ i, O i → V.see i ≠ none) (hq : Quiet C) (h0 : 0 < C.bl.length) (hp : 0 < C.pages) (hb : C.bl[0].2.pages[0]? = some []) {l : PL} (hs : SlR V s (((1, 1), (0, 0)) :: l)) :
    CallV Tryz.prog 14 ⟨[.pointer (some ⟨c, 0, none⟩), cfgV g, .int .i64 0, .slice s.a s.n s.c, .int .i64 seq]⟩ V fun r V' => r = .tuple ⟨[.pointer none, .int .i64 1]⟩ ∧ Wr O V V' := by
  refine f14_x ?_
  unfold f14_n
  intro _
  refine (blocks_ok h hO hq.sz).mono ?_
  rintro r V1 ⟨y, rfl, hV1, hy⟩
  have hyn := hy.n
  rw [List.length_map] at hyn
  have h1 := h.le hV1
  have hO1 := seen_le hV1 hO
  refine ⟨y, rfl, joinP_cut (fun z V' => z.1 = true ∧ Wr O V1 V') ⟨trivial, V1, View.Le.refl _, br_intro (fun _ => ⟨rfl, .refl⟩) (fun _ => ?_)⟩ (fun z V2 hz => ?_)⟩
  · have hy1 := hy.mono (sans_le _ _)
    obtain ⟨ad, z, hx, ha, hc, _, _, _⟩ := hy1.blk (x := 0) (by omega) (by omega)
    refine ⟨by omega, by omega, ad, ha, z, ?_, br_intro (fun _ => ⟨rfl, .refl⟩) (fun _ => ?_)⟩
    · have := hc 3 _ rfl
      simpa [Addr.add_zero] using this
    refine (planFits_ok g 0).mono ?_
    rintro r V2 ⟨rfl, rfl⟩
    refine ⟨_, rfl, br_intro (fun _ => ⟨rfl, .refl⟩) (fun _ => (blkBad_ok hy1).mono ?_)⟩
    rintro r V3 ⟨rfl, rfl⟩
    refine ⟨_, rfl, br_intro (fun _ => ⟨rfl, .refl⟩) (fun _ => (wrong1_ok h1 hO1 hq h0 hp hb (hs.mono hV1)).mono ?_)⟩
    rintro r V4 ⟨rfl, w4⟩
    exact ⟨_, rfl, rfl, w4⟩
  rcases z with ⟨z, ⟨⟩⟩
  obtain ⟨hz, w2⟩ := hz
  try simp only at hz
  dsimp only [unc]
  rw [hz]
  exact br_intro (fun _ => ⟨rfl, (Wr.of hV1).trans w2⟩) (fun h => by cases h)
theorem poolNil_ok {V : View} {g : Cfg} {a b c d seq : Int} {s t : Sl} : CallV Tryz.prog 3 ⟨[cfgV g, .agg ⟨[.int .i64 a, .int .i64 b, .int .i64 c, .int .i64 d, .slice s.a s.n s.c, .slice t.a t.n t.c]⟩, .int .i64 seq]⟩ V fun r V' => r = .bool true ∧ V.Le V' := by
  refine f3_x ?_
  unfold f3_n
  intro _ _ r hr
  have hle := View.put_le (o := .cells ⟨putL [.int .i64 0, .int .i64 0, .int .i64 0, .int .i64 0, .slice none 0 0, .slice none 0 0] 0 [.int .i64 a, .int .i64 b, .int .i64 c, .int .i64 d, .slice s.a s.n s.c, .slice t.a t.n t.c]⟩ 27) (View.see_none_of_ge hr)
  have hsr : (V.put r (.cells ⟨putL [.int .i64 0, .int .i64 0, .int .i64 0, .int .i64 0, .slice none 0 0, .slice none 0 0] 0 [.int .i64 a, .int .i64 b, .int .i64 c, .int .i64 d, .slice s.a s.n s.c, .slice t.a t.n t.c]⟩ 27)).see r = some (.cells ⟨[.int .i64 a, .int .i64 b, .int .i64 c, .int .i64 d, .slice s.a s.n s.c, .slice t.a t.n t.c]⟩ 27 (0, 0)) := View.see_put_same _ _ _
  generalize V.put r (.cells ⟨putL [.int .i64 0, .int .i64 0, .int .i64 0, .int .i64 0, .slice none 0 0, .slice none 0 0] 0 [.int .i64 a, .int .i64 b, .int .i64 c, .int .i64 d, .slice s.a s.n s.c, .slice t.a t.n t.c]⟩ 27) = V0 at *
  refine (heavy10_ok (g := g) hsr).mono ?_
  rintro r V1 ⟨⟨n, rfl⟩, rfl⟩
  refine ⟨n, rfl, br_intro (fun _ => ?_) (fun _ => ?_)⟩
  · refine awake10_ok.mono ?_
    rintro r V2 ⟨rfl, hV2⟩
    exact ⟨_, rfl, rfl, hle.trans hV2⟩
  refine undoNil_ok.mono ?_
  rintro r V2 ⟨rfl, rfl⟩
  refine ⟨rfl, putNil_ok.mono ?_⟩
  rintro r V3 ⟨rfl, rfl⟩
  refine ⟨_, _, _, rfl, fun _ => (readNil_ok (r := (0, 0))).mono ?_⟩
  rintro r V4 ⟨rfl, rfl⟩
  refine ⟨⟨none, 0, 0⟩, _, rfl, (openNil_ok (g := g) (s := ⟨none, 0, 0⟩)).mono ?_⟩
  rintro r V5 ⟨rfl, rfl⟩
  refine ⟨_, _, rfl, joinP_cut (fun z V' => z.1 = false ∧ V5.Le V') (br_intro (fun h => by cases h) (fun _ => ?_)) (fun z V6 hz => ?_)⟩
  · refine (sealNil_ok (l := ⟨none, 0, 0⟩)).mono ?_
    rintro r V6 ⟨rfl, rfl⟩
    refine ⟨_, rfl, br_intro (fun h => by cases h) (fun _ => liveNil_ok.mono ?_)⟩
    rintro r V7 ⟨rfl, hV7⟩
    refine ⟨⟨none, 0, 0⟩, rfl, polNewNil_ok.mono ?_⟩
    rintro r V8 ⟨rfl, rfl⟩
    refine ⟨⟨none, 0, 0⟩, rfl, inI64 (by simp) (by simp), br_intro (fun h => by cases h) (fun _ => seqNil_ok.mono ?_)⟩
    rintro r V9 ⟨rfl, rfl⟩
    refine ⟨_, rfl, br_intro (fun h => by cases h) (fun _ => badsNil_ok.mono ?_)⟩
    rintro r V10 ⟨rfl, rfl⟩
    refine ⟨_, rfl, br_intro (fun h => by cases h) (fun _ => overNil_ok.mono ?_)⟩
    rintro r V11 ⟨rfl, rfl⟩
    exact ⟨_, rfl, br_intro (fun h => by cases h) (fun _ => ⟨rfl, hV7⟩)⟩
  rcases z with ⟨z, ⟨⟩⟩
  obtain ⟨hz, hV6⟩ := hz
  try simp only at hz
  dsimp only [unc]
  rw [hz]
  have hle6 := hle.trans hV6
  refine br_intro (fun h => by cases h) (fun _ => ?_)
  -- behind either chip
  have fin : ∀ {V' : View}, V.Le V' → joinP [K.bool] (fun J => br (bif Option.isNone (none : Option Addr) then decide ((1 : Int) = 1) else false) (CallV Tryz.prog 10 ⟨[]⟩ V' fun (r : Value) (V : View) => ∃ x : Bool, r = .bool x ∧ J x V) (J false V')) fun (x : Bool) (V'' : View) => (Value.bool x = .bool true ∧ V.Le V'') := by
    intro V' hV'
    refine joinP_cut (fun z V'' => z.1 = true ∧ V.Le V'') (br_intro (fun _ => awake10_ok.mono ?_) (fun h => by cases h)) (fun z V'' hz => ?_)
    · rintro r V2 ⟨rfl, hV2⟩
      exact ⟨_, rfl, rfl, hV'.trans hV2⟩
    · rcases z with ⟨z, ⟨⟩⟩
      obtain ⟨hz, hV⟩ := hz
      try simp only at hz
      dsimp only [unc]
      exact ⟨by rw [hz], hV⟩
  by_cases hbad : g.bl < 1 ∨ 64 < g.bl ∨ g.pg < 1 ∨ 32 < g.pg
  · refine (chipNewNil_ok (s := ⟨none, 0, 0⟩) hbad).mono ?_
    rintro r V7 ⟨rfl, rfl⟩
    refine ⟨_, rfl, fun r7 hr7 => (openNil_ok (g := g) (s := ⟨some ⟨r7, 0, none⟩, 1, 1⟩)).mono ?_⟩
    rintro r V8 ⟨rfl, rfl⟩
    exact ⟨_, _, rfl, fin (hle6.trans (View.put_le (View.see_none_of_ge hr7)))⟩
  · obtain ⟨n, hn⟩ : ∃ n : Nat, g.bl = n := ⟨g.bl.toNat, by omega⟩
    obtain ⟨m, hm⟩ : ∃ m : Nat, g.pg = m := ⟨g.pg.toNat, by omega⟩
    have hnew := chipNew_ok (V := V6) (blocks := n) (pages := m) (s := ⟨none, 0, 0⟩) (bad := []) (SlR.nil _ none 0) (by omega) (by omega) (by omega) (by omega)
    rw [← hn, ← hm] at hnew
    refine hnew.mono ?_
    rintro r V7 ⟨B, x, q, rfl, hqm, hB, hN⟩
    obtain ⟨hc7, hV7, hno7⟩ := hN.chip (by omega) hB
    have hql : q.length = n := by have := congrArg List.length hqm; rw [List.length_map, uptoZ_len] at this; exact this
    have hbl : (newC m [] q).bl.length = n := by show (q.map _).length = n; rw [List.length_map]; exact hql
    refine ⟨_, rfl, fun r8 hr8 => ?_⟩
    have hf8 : V7.see r8 = none := View.see_none_of_ge hr8
    have hle8 := View.put_le (o := .cells ⟨putL [.int .i64 0, .int .i64 0, .int .i64 0, .int .i64 0] 0 [.int .i64 1, .int .i64 1, .int .i64 0, .int .i64 0]⟩ 52) hf8
    have hs8 : SlR (V7.put r8 (.cells ⟨putL [.int .i64 0, .int .i64 0, .int .i64 0, .int .i64 0] 0 [.int .i64 1, .int .i64 1, .int .i64 0, .int .i64 0]⟩ 52)) ⟨some ⟨r8, 0, none⟩, 1, 1⟩ ([((1, 1), (0, 0))] : PL) := by
      have hb : Buf (V7.put r8 (.cells ⟨putL [.int .i64 0, .int .i64 0, .int .i64 0, .int .i64 0] 0 [.int .i64 1, .int .i64 1, .int .i64 0, .int .i64 0]⟩ 52)) ⟨some ⟨r8, 0, none⟩, 1, 1⟩ 52 4 [.int .i64 1, .int .i64 1, .int .i64 0, .int .i64 0] := ⟨rfl, Nat.le_refl _, by show 1 ≤ _; omega, .inr ⟨r8, _, rfl, View.see_put_same _ _ _, rfl, rfl⟩⟩
      exact Buf.slR (α := P2 × P2) hb (repL_fl _ [((1, 1), (0, 0))]) (View.Le.refl _)
    have h00 : 0 < (newC m [] q).bl.length := by omega
    have hpg : (newC m [] q).bl[0].2.pages[0]? = some [] := by
      obtain ⟨p', _, e⟩ := List.mem_map.1 (List.getElem_mem h00)
      rw [← e]
      show (List.replicate m [])[0]? = some []
      rw [List.getElem?_replicate, if_pos (by omega)]
    refine (openWrong_ok (g := g) (hc7.le hle8) (seen_le hle8 fun i hi => hc7.seen hi) (newC_quiet q) h00 (by show 0 < m; omega) hpg hs8).mono ?_
    rintro r V9 ⟨rfl, w9⟩
    refine ⟨_, _, rfl, fin ?_⟩
    have hV8 : V.Le (V7.put r8 (.cells ⟨putL [.int .i64 0, .int .i64 0, .int .i64 0, .int .i64 0] 0 [.int .i64 1, .int .i64 1, .int .i64 0, .int .i64 0]⟩ 52)) := (hle6.trans hV7).trans hle8
    refine ((Wr.of hV8).trans w9).le fun i hi => ?_
    cases hs : V.see i with
    | none => rfl
    | some o => have := hle6.see _ _ hs; rw [hno7 i hi] at this; cases this
end Go.Proofs.YtgkmcnafkhdlnaaGreat
/- How rows and trees come in. -/
namespace Go.Proofs.YtgkmcnafkhdlnaaGreat
open Go Go.RowKit Go.ChangeShapes Go.WideShapes
section
variable {H : Type} {enc : TypeId × Value → H} {P : Program} {w : World} {base b0 : Nat} {sp : Nat → Bool} {held : Bool} {r : Go.Reach} {v : Value} {d : DataW H} {ps : List MemPlace}
end
instance : Rep Cfg where
  sz := 5
  pos := by decide
  rep _ vs g := vs = cfgL g ∧ CfgI g
  len h := by rw [h.1]; rfl
  one h := by rw [h.1]; rfl
  mono _ h := h
/-- A call of the pool's laws. -/
structure PCal where
  d : Int
  n : Int
  keep : Int
  page : Int
  data : List UInt8
  pick : List Bool
structure PCalR (V : View) (c : PCal) (s t : Sl) : Prop where
  d : inI .i64 c.d
  n : inI .i64 c.n
  keep : inI .i64 c.keep
  page : inI .i64 c.page
  data : SlR V s c.data
  pick : SlR V t c.pick
def pcalL (c : PCal) (s t : Sl) : List Value := [.int .i64 c.d, .int .i64 c.n, .int .i64 c.keep, .int .i64 c.page, .slice s.a s.n s.c, .slice t.a t.n t.c]
instance : Rep PCal where
  sz := 6
  pos := by decide
  rep V vs c := ∃ s t : Sl, vs = pcalL c s t ∧ PCalR V c s t
  len h := by obtain ⟨s, t, h, _⟩ := h; rw [h]; rfl
  one h := by obtain ⟨s, t, h, _⟩ := h; rw [h]; rfl
  mono hV h := let ⟨s, t, h, k⟩ := h; ⟨s, t, h, k.d, k.n, k.keep, k.page, k.data.mono hV, k.pick.mono hV⟩
theorem trodRep_boolP {P : Program} {t : TypeId} (ht : P.underlying t = some .bool) : TrodRep P Bool t := ⟨fun h => by
  obtain ⟨b, hc, _⟩ := DataW.trod_bool ht h
  exact ⟨b, hc⟩⟩
theorem trodRep_cfg {P : Program} {t ti : TypeId} (h0 : fieldX P t 0 = some (0, ti)) (h1 : fieldX P t 1 = some (1, ti)) (h2 : fieldX P t 2 = some (2, ti)) (h3 : fieldX P t 3 = some (3, ti)) (h4 : fieldX P t 4 = some (4, ti)) (hc : P.cellsOf t = 5) (hci : P.cellsOf ti = 1) (hi : P.underlying ti = some (.int .i64)) : TrodRep P Cfg t := ⟨fun {H enc w base sp held fuel cs x} h => by
  obtain ⟨hl, n0, y0, g0⟩ := trod_field h0 h
  obtain ⟨_, n1, y1, g1⟩ := trod_field h1 h
  obtain ⟨_, n2, y2, g2⟩ := trod_field h2 h
  obtain ⟨_, n3, y3, g3⟩ := trod_field h3 h
  obtain ⟨_, n4, y4, g4⟩ := trod_field h4 h
  rw [hc] at hl
  match cs, hl with
  | [a, b, c, d, e], _ =>
    rw [hci] at g0 g1 g2 g3 g4
    obtain ⟨m0, e0, w0⟩ := (trodRep_int hi).of g0
    obtain ⟨m1, e1, w1⟩ := (trodRep_int hi).of g1
    obtain ⟨m2, e2, w2⟩ := (trodRep_int hi).of g2
    obtain ⟨m3, e3, w3⟩ := (trodRep_int hi).of g3
    obtain ⟨m4, e4, w4⟩ := (trodRep_int hi).of g4
    simp at e0 e1 e2 e3 e4
    exact ⟨⟨m0, m1, m2, m3, m4⟩, by rw [e0, e1, e2, e3, e4]; rfl, ⟨w0, w1, w2, w3, w4⟩⟩⟩
theorem trodRep_pcal {P : Program} {t ti tb tp : TypeId} (h0 : fieldX P t 0 = some (0, ti)) (h1 : fieldX P t 1 = some (1, ti)) (h2 : fieldX P t 2 = some (2, ti)) (h3 : fieldX P t 3 = some (3, ti)) (h4 : fieldX P t 4 = some (4, tb)) (h5 : fieldX P t 5 = some (5, tp)) (hc : P.cellsOf t = 6) (hci : P.cellsOf ti = 1) (hcb : P.cellsOf tb = 1) (hcp : P.cellsOf tp = 1) (hi : P.underlying ti = some (.int .i64)) (hb : TrodRep P (List UInt8) tb) (hp : TrodRep P (List Bool) tp) : TrodRep P PCal t := ⟨fun {H enc w base sp held fuel cs x} h => by
  obtain ⟨hl, n0, y0, g0⟩ := trod_field h0 h
  obtain ⟨_, n1, y1, g1⟩ := trod_field h1 h
  obtain ⟨_, n2, y2, g2⟩ := trod_field h2 h
  obtain ⟨_, n3, y3, g3⟩ := trod_field h3 h
  obtain ⟨_, n4, y4, g4⟩ := trod_field h4 h
  obtain ⟨_, n5, y5, g5⟩ := trod_field h5 h
  rw [hc] at hl
  match cs, hl with
  | [a, b, c, d, e, f], _ =>
    rw [hci] at g0 g1 g2 g3
    rw [hcb] at g4
    rw [hcp] at g5
    obtain ⟨m0, e0, w0⟩ := (trodRep_int hi).of g0
    obtain ⟨m1, e1, w1⟩ := (trodRep_int hi).of g1
    obtain ⟨m2, e2, w2⟩ := (trodRep_int hi).of g2
    obtain ⟨m3, e3, w3⟩ := (trodRep_int hi).of g3
    obtain ⟨l4, s4, e4, w4⟩ := hb.of g4
    obtain ⟨l5, s5, e5, w5⟩ := hp.of g5
    simp at e0 e1 e2 e3 e4 e5
    exact ⟨⟨m0, m1, m2, m3, l4, l5⟩, s4, s5, by rw [e0, e1, e2, e3, e4, e5]; rfl, ⟨w0, w1, w2, w3, w4, w5⟩⟩⟩
theorem boolsInP : TrodRep Tryz.prog (List Bool) 25 := trodRep_slice (e := 4) Tryz.underlying25 (by kernel_rfl) (trodRep_boolP Tryz.underlying4)
theorem cfgIn : TrodRep Tryz.prog Cfg 23 := trodRep_cfg (ti := 3) (by kernel_rfl) (by kernel_rfl) (by kernel_rfl) (by kernel_rfl) (by kernel_rfl) (by kernel_rfl) (by kernel_rfl) Tryz.underlying3
theorem pcalIn : TrodRep Tryz.prog PCal 27 := trodRep_pcal (ti := 3) (tb := 24) (tp := 25) (by kernel_rfl) (by kernel_rfl) (by kernel_rfl) (by kernel_rfl) (by kernel_rfl) (by kernel_rfl) (by kernel_rfl) (by kernel_rfl) (by kernel_rfl) (by kernel_rfl) Tryz.underlying3 bytesIn boolsInP
section
variable {H : Type} {enc : TypeId × Value → H} {P : Program} {w : World} {base b0 : Nat} {sp : Nat → Bool} {held : Bool} {r : Go.Reach} {t : TypeId} {fs : Array Field} {v : Value} {d : DataW H} {ps : List MemPlace}
theorem in_cfg (ht : P.underlying t = some (.struct fs)) (hT : TrodRep P Cfg t) (hv : Value.okWide P w r b0 t v) (hd : DataW.Trod enc P w base sp held t v d ps) : ∃ g : Cfg, v = cfgV g ∧ CfgI g := by
  obtain ⟨⟨cs⟩, rfl, hsz⟩ := okWide_struct ht hv
  obtain ⟨fuel, hf⟩ := hd
  obtain ⟨g, h, k⟩ := hT.of hf
  have h : cs = cfgL g := h
  exact ⟨g, by rw [h]; rfl, k⟩
theorem in_pcal (ht : P.underlying t = some (.struct fs)) (hT : TrodRep P PCal t) (hv : Value.okWide P w r b0 t v) (hd : DataW.Trod enc P w base sp held t v d ps) : ∃ (c : PCal) (s u : Sl), v = .agg ⟨[.int .i64 c.d, .int .i64 c.n, .int .i64 c.keep, .int .i64 c.page, .slice s.a s.n s.c, .slice u.a u.n u.c]⟩ ∧ PCalR (View.all w) c s u := by
  obtain ⟨⟨cs⟩, rfl, hsz⟩ := okWide_struct ht hv
  obtain ⟨fuel, hf⟩ := hd
  obtain ⟨c, s, u, h, k⟩ := hT.of hf
  have h : cs = pcalL c s u := h
  exact ⟨c, s, u, by rw [h]; rfl, k⟩
end
end Go.Proofs.YtgkmcnafkhdlnaaGreat
