/- Which nodes one comes to: a stack and marks. No program in this text. -/
import Derived.Test.YtpalkdmngckcoaaDirLaw
namespace Go.Proofs.Ytpalkdmngckcoaa
open Go
/-- Marks and a stack; of node i the first 'lim i' entries are done, unless it is on the stack. -/
structure DI (t : Tre) (a : Nat) (lim : Nat → Nat) (met : List Bool) (l : List Int) : Prop where
  len : met.length = 12
  start : met.getD a false = true
  sound : ∀ j, met.getD j false = true → Reach t a j
  stack : ∀ y ∈ l, 0 ≤ y ∧ y < 12 ∧ met.getD y.toNat false = true
  done : ∀ i, met.getD i false = true → (i : Int) ∈ l ∨ ∀ e ∈ (t.getD i default).ents.take (lim i), met.getD e.node.toNat false = true
  room : l.length + met.countP (fun b => !b) ≤ 12
def full (t : Tre) (i : Nat) : Nat := (t.getD i default).ents.length
def upto (t : Tre) (c k i : Nat) : Nat := if i = c then k else full t i
theorem getD_set_bool (met : List Bool) (q j : Nat) (h : q < met.length) : (met.set q true).getD j false = if j = q then true else met.getD j false := by
  rw [List.getD_eq_getElem?_getD, List.getD_eq_getElem?_getD, List.getElem?_set]
  by_cases e : q = j
  · rw [if_pos e, if_pos e.symm, if_pos h]; rfl
  · rw [if_neg e, if_neg (fun h => e h.symm)]
theorem countP_set : ∀ (met : List Bool) (q : Nat), q < met.length → met.getD q false = false → (met.set q true).countP (fun b => !b) + 1 = met.countP (fun b => !b)
  | b :: met, 0, _, h => by
    have h : b = false := by simpa using h
    subst h
    simp
  | b :: met, q + 1, hq, h => by
    have := countP_set met q (by simpa using hq) (by simpa using h)
    simp only [List.set_cons_succ, List.countP_cons]
    omega
theorem DI.first {t : Tre} {a : Nat} (ha : a < 12) : DI t a (full t) ((List.replicate 12 false).set a true) [(a : Int)] := by
  have hl : a < (List.replicate 12 false).length := by simpa using ha
  have hg := fun j => getD_set_bool (List.replicate 12 false) a j hl
  have hr : ∀ j, (List.replicate 12 false).getD j false = false := fun j => by
    rw [List.getD_eq_getElem?_getD, List.getElem?_replicate]; split <;> rfl
  have hc := countP_set _ a hl (hr a)
  have hc2 : (List.replicate 12 false).countP (fun b => !b) = 12 := rfl
  refine ⟨by simp, by rw [hg, if_pos rfl], fun j hj => ?_, fun y hy => ?_, fun i hi => ?_, by simp only [List.length_cons, List.length_nil]; omega⟩
  · rw [hg, hr] at hj
    split at hj
    · rename_i e; subst e; exact .refl
    · cases hj
  · have hy : y = a := by simpa using hy
    subst hy
    exact ⟨by omega, by omega, by rw [Int.toNat_natCast, hg, if_pos rfl]⟩
  · rw [hg, hr] at hi
    split at hi
    · rename_i e; subst e; left; simp
    · cases hi
theorem DI.pop {t : Tre} {a : Nat} {met : List Bool} {l : List Int} {c : Nat} (h : DI t a (full t) met (l ++ [(c : Int)])) : DI t a (upto t c 0) met l := by
  refine ⟨h.len, h.start, h.sound, fun y hy => h.stack y (by simp [hy]), fun i hi => ?_, by have := h.room; simp at this; omega⟩
  unfold upto
  by_cases e : i = c
  · right; rw [if_pos e]; simp
  · rw [if_neg e]
    rcases h.done i hi with h1 | h1
    · left
      rcases List.mem_append.1 h1 with h2 | h2
      · exact h2
      · exact absurd (Int.ofNat.inj (by simpa using h2)) e
    · exact .inr h1
theorem DI.old {t : Tre} {a : Nat} {met : List Bool} {l : List Int} {c k : Nat} (h : DI t a (upto t c k) met l) (hk : k < full t c) (hm : met.getD ((t.getD c default).ents.getD k default).node.toNat false = true) : DI t a (upto t c (k + 1)) met l := by
  refine ⟨h.len, h.start, h.sound, h.stack, fun i hi => ?_, h.room⟩
  rcases h.done i hi with h1 | h1
  · exact .inl h1
  · right
    unfold upto at h1 ⊢
    by_cases e : i = c
    · subst e
      rw [if_pos rfl] at h1 ⊢
      rw [List.take_add_one, List.getElem?_eq_getElem hk]
      intro x hx
      rcases List.mem_append.1 hx with h2 | h2
      · exact h1 x h2
      · have h2 : x = (t.getD i default).ents[k] := by simpa using h2
        rw [getD_at hk] at hm
        rw [h2]; exact hm
    · rw [if_neg e] at h1 ⊢; exact h1
theorem DI.new {t : Tre} {a : Nat} {met : List Bool} {l : List Int} {c k q : Nat} (h : DI t a (upto t c k) met l) (hk : k < full t c) (hq : ((t.getD c default).ents.getD k default).node = q) (hq12 : q < 12) (hc : met.getD c false = true) (hm : met.getD q false = false) :
    DI t a (upto t c (k + 1)) (met.set q true) (l ++ [(q : Int)]) ∧ (met.set q true).countP (fun b => !b) + 1 = met.countP (fun b => !b) := by
  have hl : q < met.length := by rw [h.len]; exact hq12
  have hg := fun j => getD_set_bool met q j hl
  have hcp := countP_set met q hl hm
  have up : ∀ j, met.getD j false = true → (met.set q true).getD j false = true := fun j hj => by rw [hg, hj]; simp
  have hreach : Reach t a q := by
    have hx : (t.getD c default).ents.getD k default ∈ (t.getD c default).ents := by
      rw [getD_at hk]; exact List.getElem_mem hk
    have := Reach.step (h.sound c hc) hx
    rw [hq, Int.toNat_natCast] at this
    exact this
  refine ⟨⟨by simp [h.len], up _ h.start, fun j hj => ?_, fun y hy => ?_, fun i hi => ?_, by have := h.room; simp; omega⟩, hcp⟩
  · rw [hg] at hj
    split at hj
    · rename_i e; subst e; exact hreach
    · exact h.sound j hj
  · rcases List.mem_append.1 hy with h1 | h1
    · obtain ⟨y1, y2, y3⟩ := h.stack y h1
      exact ⟨y1, y2, up _ y3⟩
    · have h1 : y = q := by simpa using h1
      subst h1
      exact ⟨by omega, by omega, by rw [Int.toNat_natCast, hg, if_pos rfl]⟩
  · rw [hg] at hi
    by_cases e : i = q
    · left; subst e; simp
    · rw [if_neg e] at hi
      rcases h.done i hi with h1 | h1
      · left; simp [h1]
      · right
        unfold upto at h1 ⊢
        by_cases e : i = c
        · subst e
          rw [if_pos rfl] at h1 ⊢
          rw [List.take_add_one, List.getElem?_eq_getElem hk]
          intro x hx
          rcases List.mem_append.1 hx with h2 | h2
          · exact up _ (h1 x h2)
          · have h2 : x = (t.getD i default).ents[k] := by simpa using h2
            rw [getD_at hk] at hq
            rw [h2, hq, Int.toNat_natCast, hg, if_pos rfl]
        · rw [if_neg e] at h1 ⊢
          exact fun x hx => up _ (h1 x hx)
theorem DI.close {t : Tre} {a : Nat} {met : List Bool} {l : List Int} {c : Nat} (h : DI t a (upto t c (full t c)) met l) : DI t a (full t) met l := by
  have e : upto t c (full t c) = full t := by
    funext i
    unfold upto
    by_cases e : i = c
    · rw [if_pos e, e]
    · rw [if_neg e]
  rw [e] at h; exact h
theorem DI.end {t : Tre} {a : Nat} {met : List Bool} (h : DI t a (full t) met []) : met = (List.range 12).map (metB t a) := by
  have hall : ∀ j, Reach t a j → met.getD j false = true := by
    intro j hj
    induction hj with
    | refl => exact h.start
    | step hi hx ih =>
      rcases h.done _ ih with h1 | h1
      · cases h1
      · exact h1 _ (by unfold full; rw [List.take_length]; exact hx)
  apply List.ext_getElem (by simp [h.len])
  intro j h1 h2
  have e : met.getD j false = met[j] := by rw [List.getD_eq_getElem?_getD, List.getElem?_eq_getElem h1]; rfl
  rw [List.getElem_map, List.getElem_range, Bool.eq_iff_iff, metB_iff, ← e]
  exact ⟨h.sound j, hall j⟩
end Go.Proofs.Ytpalkdmngckcoaa
