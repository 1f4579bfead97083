/- Paths, as plain functions on bytes; what they answer. No program in this text. -/
import Derived.Lib.SplitLaws
import Derived.Lib.Join
import Derived.KernelRfl
namespace Go.Proofs.Ytpalkdmngckcoaa
open Go
abbrev bl (s : ByteArray) : List UInt8 := s.data.toList
def ba (l : List UInt8) : ByteArray := ⟨⟨l⟩⟩
@[simp] theorem bl_ba (l : List UInt8) : bl (ba l) = l := rfl
@[simp] theorem ba_bl (s : ByteArray) : ba (bl s) = s := rfl
theorem bl_inj {s t : ByteArray} (h : bl s = bl t) : s = t := by rw [← ba_bl s, h, ba_bl]
theorem bl_len (s : ByteArray) : (bl s).length = s.size := by simp [bl]
theorem bl_append (s t : ByteArray) : bl (s ++ t) = bl s ++ bl t := by
  show (s ++ t).data.toList = _
  rw [ByteArray.data_append, Array.toList_append]
theorem ba_size (l : List UInt8) : (ba l).size = l.length := rfl
theorem ba_append (l m : List UInt8) : ba l ++ ba m = ba (l ++ m) := bl_inj (by rw [bl_append]; rfl)
theorem map_ba_bl (l : List ByteArray) : (l.map bl).map ba = l := by simp [Function.comp_def]
theorem map_bl_ba (l : List (List UInt8)) : (l.map ba).map bl = l := by simp [Function.comp_def]

def okB (b : Nat) : Bool := (97 ≤ b && b ≤ 122) || (48 ≤ b && b ≤ 57) || b == 46 || b == 95 || b == 45
/-- May a name be? -/
def mayB (s : ByteArray) : Bool := (bl s).all (fun b => okB b.toNat) && (1 ≤ s.size && s.size ≤ 8 && !decide (s = ByteArray.mk #[46]) && !decide (s = ByteArray.mk #[46, 46]))
/-- Cut at each '/'. -/
def splitS : List UInt8 → List (List UInt8)
  | [] => [[]]
  | c :: s => if c = 47 then [] :: splitS s else match splitS s with
    | h :: t => (c :: h) :: t
    | [] => [[c]]
theorem splitS_ne : ∀ s, splitS s ≠ []
  | [] => by simp [splitS]
  | c :: s => by
    unfold splitS
    split
    · simp
    · split <;> simp
theorem splitS_no : ∀ {s : List UInt8}, 47 ∉ s → splitS s = [s]
  | [], _ => rfl
  | c :: s, h => by
    have h1 : c ≠ 47 := fun e => h (by simp [e])
    have h2 : 47 ∉ s := fun e => h (by simp [e])
    unfold splitS
    rw [if_neg h1, splitS_no h2]
theorem splitS_app (b : List UInt8) : ∀ a : List UInt8, splitS (a ++ 47 :: b) = splitS a ++ splitS b
  | [] => by simp [splitS]
  | c :: a => by
    simp only [List.cons_append]
    by_cases h : c = 47
    · rw [splitS, splitS, if_pos h, if_pos h, splitS_app b a]; rfl
    · rw [splitS, splitS, if_neg h, if_neg h, splitS_app b a]
      cases hs : splitS a with
      | nil => exact absurd hs (splitS_ne a)
      | cons x y => rfl
theorem join_cons2 (x y : List UInt8) (l : List (List UInt8)) : Lib.join (x :: y :: l) [47] = x ++ 47 :: Lib.join (y :: l) [47] := by
  rw [Lib.join_cons, Lib.join_cons]
  simp [Lib.joinTail]
theorem join_split : ∀ s : List UInt8, Lib.join (splitS s) [47] = s
  | [] => by simp [splitS, Lib.join_one]
  | c :: s => by
    have ih := join_split s
    unfold splitS
    split
    · rename_i h
      cases hs : splitS s with
      | nil => exact absurd hs (splitS_ne s)
      | cons x y => rw [join_cons2, ← hs, ih, h]; rfl
    · cases hs : splitS s with
      | nil => exact absurd hs (splitS_ne s)
      | cons x y =>
        rw [hs] at ih
        show Lib.join ((c :: x) :: y) [47] = _
        rw [Lib.join_cons] at ih ⊢
        rw [List.cons_append, ih]
theorem split_join : ∀ l : List (List UInt8), l ≠ [] → (∀ x ∈ l, 47 ∉ x) → splitS (Lib.join l [47]) = l
  | [], h, _ => absurd rfl h
  | [x], _, h => by rw [Lib.join_one, splitS_no (h x (by simp))]
  | x :: y :: l, _, h => by
    rw [join_cons2, splitS_app, splitS_no (h x (by simp)), split_join (y :: l) (by simp) (fun z hz => h z (by simp [hz]))]
    rfl
theorem mayB_no {s : ByteArray} (h : mayB s = true) : 47 ∉ bl s := fun hm => by
  unfold mayB at h
  rw [Bool.and_eq_true, List.all_eq_true] at h
  have := h.1 47 hm
  revert this
  decide
theorem mayB_size {s : ByteArray} (h : mayB s = true) : 1 ≤ s.size ∧ s.size ≤ 8 := by
  unfold mayB at h
  simp only [Bool.and_eq_true, decide_eq_true_eq] at h
  exact ⟨h.2.1.1.1, h.2.1.1.2⟩

/-- A path's names; none: it is none. -/
def splitP (s : ByteArray) : Option (List ByteArray) :=
  match bl s with
  | [] => none
  | c :: r => if c = 47 ∧ s.size ≤ 60 then (if r = [] then some [] else if ((splitS r).map ba).all mayB then some ((splitS r).map ba) else none) else none
theorem splitP_some {s : ByteArray} {l : List ByteArray} (h : splitP s = some l) : s.size ≤ 60 ∧ l.all mayB = true ∧ bl s = 47 :: Lib.join (l.map bl) [47] := by
  unfold splitP at h
  split at h
  · cases h
  · rename_i c r hs
    split at h
    · rename_i hc
      obtain ⟨rfl, hl⟩ := hc
      split at h
      · rename_i hr; cases h; exact ⟨hl, rfl, by rw [hs, hr]; rfl⟩
      · split at h
        · rename_i hm; cases h; exact ⟨hl, hm, by rw [hs, map_bl_ba, join_split]⟩
        · cases h
    · cases h
theorem splitP_join {l : List ByteArray} (h : l.all mayB = true) (hs : (Lib.join (l.map bl) [47]).length ≤ 59) : splitP (ba (47 :: Lib.join (l.map bl) [47])) = some l := by
  unfold splitP
  simp only [bl_ba]
  rw [if_pos ⟨trivial, by rw [ba_size]; simp; omega⟩]
  cases l with
  | nil => simp [Lib.join_nil]
  | cons x l =>
    have hno : ∀ y ∈ (x :: l).map bl, 47 ∉ y := fun y hy => by
      obtain ⟨z, hz, rfl⟩ := List.mem_map.1 hy
      exact mayB_no (List.all_eq_true.1 h z hz)
    have hx : 1 ≤ (bl x).length := by rw [bl_len]; exact (mayB_size (List.all_eq_true.1 h x (by simp))).1
    rw [split_join _ (by simp) hno, map_ba_bl, if_neg, if_pos h]
    intro e
    rw [List.map_cons, Lib.join_cons] at e
    simp only [List.append_eq_nil_iff] at e
    rw [e.1] at hx
    simp at hx
/-- The path of names; nothing: they have none. -/
def joinP1 (l : List ByteArray) : ByteArray := if splitP (ba (47 :: Lib.join (l.map bl) [47])) = some l then ba (47 :: Lib.join (l.map bl) [47]) else ba []
theorem joinP_of_split {s : ByteArray} {l : List ByteArray} (h : splitP s = some l) : joinP1 l = s := by
  have e : ba (47 :: Lib.join (l.map bl) [47]) = s := bl_inj (splitP_some h).2.2.symm
  unfold joinP1
  rw [e, if_pos h]
/-- A path without its last name, that name, what is answered. -/
def lastP (s : ByteArray) : ByteArray × ByteArray × Int :=
  match splitP s with
  | none => (ba [], ba [], 7)
  | some l => if h : l = [] then (ba [], ba [], 18) else (joinP1 l.dropLast, l.getLast h, 0)
theorem joinS_snoc (l : List ByteArray) (n : ByteArray) (hl : l ≠ []) : Lib.join ((l ++ [n]).map bl) [47] = Lib.join (l.map bl) [47] ++ 47 :: bl n := by
  cases l with
  | nil => exact absurd rfl hl
  | cons x l =>
    simp only [List.cons_append, List.map_cons, Lib.join_cons, List.map_append, List.map_nil]
    simp [Lib.joinTail]
/-- One name more. -/
def longer (s n : ByteArray) : ByteArray := if s = ba [47] then ba [47] ++ n else s ++ ba [47] ++ n
theorem splitP_longer {s n : ByteArray} (hn : 47 ∉ bl n) (hn1 : 1 ≤ n.size) {l : List ByteArray} (h : splitP s = some l) : splitP (longer s n) = if mayB n = true ∧ (longer s n).size ≤ 60 then some (l ++ [n]) else none := by
  have hs := (splitP_some h).2
  have hbl : bl (longer s n) = 47 :: Lib.join ((l ++ [n]).map bl) [47] := by
    unfold longer
    split
    · rename_i he
      rw [he] at hs
      have hl : l = [] := by
        cases l with
        | nil => rfl
        | cons x l =>
          have hx := (mayB_size (List.all_eq_true.1 hs.1 x (by simp))).1
          have := hs.2
          simp only [bl_ba, List.map_cons, Lib.join_cons, List.cons.injEq, true_and] at this
          have h2 := (List.append_eq_nil_iff.1 this.symm).1
          rw [← bl_len, h2] at hx
          simp at hx
      subst hl
      rw [bl_append, bl_ba]
      simp [Lib.join_one]
    · rename_i he
      have hl : l ≠ [] := fun e => by
        subst e
        exact he (bl_inj (by rw [hs.2]; rfl))
      rw [bl_append, bl_append, hs.2, joinS_snoc l n hl, bl_ba]
      simp
  have hsz : (longer s n).size = 1 + (Lib.join ((l ++ [n]).map bl) [47]).length := by rw [← bl_len, hbl]; simp; omega
  have he : longer s n = ba (47 :: Lib.join ((l ++ [n]).map bl) [47]) := bl_inj hbl
  have hne : Lib.join ((l ++ [n]).map bl) [47] ≠ [] := by
    cases l with
    | nil =>
      simp only [List.nil_append, List.map_cons, List.map_nil, Lib.join_one]
      intro e; rw [← bl_len, e] at hn1; simp at hn1
    | cons x l =>
      rw [joinS_snoc _ _ (by simp)]
      simp
  have hno : ∀ y ∈ (l ++ [n]).map bl, 47 ∉ y := fun y hy => by
    obtain ⟨z, hz, rfl⟩ := List.mem_map.1 hy
    rcases List.mem_append.1 hz with hz | hz
    · exact mayB_no (List.all_eq_true.1 hs.1 z hz)
    · rw [List.mem_singleton] at hz; subst hz; exact hn
  by_cases h60 : (longer s n).size ≤ 60
  · by_cases hm : mayB n = true
    · rw [if_pos ⟨hm, h60⟩, he]
      exact splitP_join (by rw [List.all_append, hs.1]; simp [hm]) (by omega)
    · rw [if_neg (fun h => hm h.1), he]
      unfold splitP
      simp only [bl_ba]
      rw [if_pos ⟨trivial, by rw [← he]; exact h60⟩, if_neg hne, split_join _ (by simp) hno, map_ba_bl, if_neg]
      rw [List.all_append]
      simp [hm]
  · rw [if_neg (fun h => h60 h.2)]
    unfold splitP
    rw [hbl]
    simp only
    rw [if_neg (fun h => h60 h.2)]
theorem cut47 : ∀ {t : List UInt8}, 47 ∈ t → ∃ a b, t = a ++ 47 :: b ∧ 47 ∉ a
  | [], h => by simp at h
  | c :: t, h => by
    by_cases hc : c = 47
    · exact ⟨[], t, by rw [hc]; rfl, by simp⟩
    · obtain ⟨a, b, e, hn⟩ := cut47 (t := t) (by
        rcases List.mem_cons.1 h with h | h
        · exact absurd h.symm hc
        · exact h)
      exact ⟨c :: a, b, by rw [e]; rfl, fun h => by
        rcases List.mem_cons.1 h with h | h
        · exact hc h.symm
        · exact hn h⟩
theorem occ47 {t : List UInt8} {j : Nat} (h : ∀ c, t[j]? = some c → c ≠ 47) : Lib.occAt t [47] j = false := by
  unfold Lib.occAt
  cases hd : t.drop j with
  | nil => rfl
  | cons c r =>
    have h5 : t[j]? = some c := by
      have := List.getElem?_drop (xs := t) (i := j) (j := 0)
      rw [hd] at this; simpa using this.symm
    have hc := h c h5
    simp [List.isPrefixOf, Ne.symm hc]
theorem idx47 {a b : List UInt8} (h : 47 ∉ a) : Lib.index (a ++ 47 :: b) [47] = a.length := by
  refine Lib.index_first (by simp) ?_ fun _ hj => occ47 fun _ hc => ?_
  · simp [Lib.occAt, List.isPrefixOf]
  · rw [List.getElem?_append_left hj] at hc
    exact fun e => h (e ▸ List.mem_of_getElem? hc)
theorem idx47_none {t : List UInt8} (h : 47 ∉ t) : Lib.index t [47] = -1 :=
  Lib.index_none fun _ _ => occ47 fun _ hc e => h (e ▸ List.mem_of_getElem? hc)
/-- The kit's own words for cutting. -/
theorem splitK_eq : ∀ (k : Nat) (t : List UInt8), t.count 47 ≤ k → Lib.splitK [47] 0 k t = splitS t
  | 0, t, ht => by
    have : 47 ∉ t := fun hm => by
      have := List.count_pos_iff.2 hm
      omega
    rw [splitS_no this]; rfl
  | k + 1, t, ht => by
    by_cases hm : 47 ∈ t
    · obtain ⟨a, b, rfl, hn⟩ := cut47 hm
      have ih := splitK_eq k b (by simp at ht; omega)
      unfold Lib.splitK
      rw [idx47 hn, if_neg (by rw [beq_iff_eq]; omega), splitS_app, splitS_no hn]
      have e1 : (a ++ 47 :: b).take (((a.length : Nat) : Int).toNat + 0) = a := by simp
      have e2 : (a ++ 47 :: b).drop (((a.length : Nat) : Int).toNat + [(47 : UInt8)].length) = b := by simp
      rw [e1, e2, ih]; rfl
    · unfold Lib.splitK
      rw [idx47_none hm, if_pos (by rfl), splitS_no hm]
theorem splitB_eq (s : ByteArray) : Lib.splitB (ba [47]) 0 (Lib.countB s (ba [47])) s = (splitS (bl s)).map ba := by
  have h1 := Lib.splitB_data (ba [47]) 0 (Lib.countB s (ba [47])) s
  have h2 : Lib.countB s (ba [47]) = (bl s).count 47 := Lib.count_one 47 (bl s)
  have h3 : (Lib.splitB (ba [47]) 0 (Lib.countB s (ba [47])) s).map bl = splitS (bl s) := by
    show (Lib.splitB (ba [47]) 0 (Lib.countB s (ba [47])) s).map (·.data.toList) = _
    rw [h1]
    exact splitK_eq _ _ (by rw [h2]; exact Nat.le_refl _)
  rw [← h3, map_ba_bl]
end Go.Proofs.Ytpalkdmngckcoaa
