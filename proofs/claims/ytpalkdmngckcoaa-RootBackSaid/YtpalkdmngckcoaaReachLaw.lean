/- Which directories one comes to: marks, round by round. No program in this text. -/
import Derived.Test.YtpalkdmngckcoaaBelowLaw
namespace Go.Proofs.Ytpalkdmngckcoaa
open Go
abbrev kindT (t : Tre) (j : Nat) : Int := (t.getD j default).kind
abbrev entsT (t : Tre) (j : Nat) : List Ent := (t.getD j default).ents
/-- Marks on directories that one comes to. -/
structure RI (t : Tre) (on : List Bool) : Prop where
  len : on.length = 12
  start : on.getD 0 false = true
  sound : ∀ j, on.getD j false = true → Reach t 0 j ∧ kindT t j = 2
/-- What the marked ones of the first i name is marked, if it is a directory. -/
def Clo (t : Tre) (on0 on : List Bool) (i : Nat) : Prop := ∀ j, j < i → on0.getD j false = true → ∀ e ∈ entsT t j, kindT t e.node.toNat = 2 → on.getD e.node.toNat false = true
def SubB (a b : List Bool) : Prop := ∀ j, a.getD j false = true → b.getD j false = true
/-- Within a round. -/
structure PI (t : Tre) (on0 on : List Bool) (i : Nat) : Prop where
  ri : RI t on
  sub : SubB on0 on
  clo : Clo t on0 on i
  stay : Clo t on0 on0 12 → on = on0
def trues (on : List Bool) : Nat := on.countP fun b => b
theorem count_sub : ∀ (a b : List Bool), a.length = b.length → SubB a b → trues a ≤ trues b ∧ (trues a = trues b → a = b)
  | [], [], _, _ => ⟨Nat.le_refl _, fun _ => rfl⟩
  | x :: a, y :: b, hl, hs => by
    obtain ⟨h1, h2⟩ := count_sub a b (by simpa using hl) fun j hj => by have := hs (j + 1) (by simpa using hj); simpa using this
    have h0 : x = true → y = true := fun h => by have := hs 0 (by simpa using h); simpa using this
    unfold trues at *
    simp only [List.countP_cons]
    cases x <;> cases y <;> simp at h0 ⊢
    · exact ⟨h1, h2⟩
    · exact ⟨by omega, fun h => by omega⟩
    · exact ⟨h1, h2⟩
theorem trues_le (on : List Bool) : trues on ≤ on.length := List.countP_le_length
theorem PI.start {t : Tre} {on : List Bool} (h : RI t on) : PI t on on 0 := ⟨h, fun _ h => h, fun _ hj => absurd hj (Nat.not_lt_zero _), fun _ => rfl⟩
theorem PI.skip {t : Tre} {on0 on : List Bool} {i : Nat} (h : PI t on0 on i) (hi : on.getD i false = false) : PI t on0 on (i + 1) :=
  ⟨h.ri, h.sub, fun j hj h0 e he hk => by
    by_cases hji : j = i
    · subst hji; have := h.sub _ h0; rw [hi] at this; cases this
    · exact h.clo j (by omega) h0 e he hk, h.stay⟩
theorem PI.next {t : Tre} {on0 on : List Bool} {i : Nat} (h : PI t on0 on i) (hi : ∀ e ∈ entsT t i, kindT t e.node.toNat = 2 → on.getD e.node.toNat false = true) : PI t on0 on (i + 1) :=
  ⟨h.ri, h.sub, fun j hj h0 e he hk => by
    by_cases hji : j = i
    · subst hji; exact hi e he hk
    · exact h.clo j (by omega) h0 e he hk, h.stay⟩
theorem set_same {on : List Bool} {q : Nat} (h : on.getD q false = true) : on.set q true = on := by
  apply List.ext_getElem? 
  intro j
  rw [List.getElem?_set]
  by_cases e : q = j
  · subst e
    rw [List.getD_eq_getElem?_getD] at h
    cases ho : on[q]? with
    | none => rw [ho] at h; cases h
    | some b =>
      rw [ho] at h
      have hb : b = true := h
      rw [if_pos rfl, if_pos (List.getElem?_eq_some_iff.1 ho).1, hb]
  · rw [if_neg e]
theorem PI.mark {t : Tre} {on0 on : List Bool} {i q : Nat} {e : Ent} (h : PI t on0 on i) (hi12 : i < 12) (hi : on.getD i false = true) (he : e ∈ entsT t i) (hq : e.node = q) (hq12 : q < 12) (hk : kindT t q = 2) : PI t on0 (on.set q true) i := by
  have hl : q < on.length := by rw [h.ri.len]; exact hq12
  have hg := fun j => getD_set_bool on q j hl
  have up : ∀ j, on.getD j false = true → (on.set q true).getD j false = true := fun j hj => by rw [hg, hj]; simp
  refine ⟨⟨by simp [h.ri.len], up _ h.ri.start, fun j hj => ?_⟩, fun j hj => up _ (h.sub j hj), fun j hj h0 e he hk => up _ (h.clo j hj h0 e he hk), fun hc => ?_⟩
  · rw [hg] at hj
    split at hj
    · rename_i e1
      subst e1
      have := Reach.step (h.ri.sound i hi).1 he
      rw [hq, Int.toNat_natCast] at this
      exact ⟨this, hk⟩
    · exact h.ri.sound j hj
  · have hs := h.stay hc
    have h0 : on0.getD i false = true := by rw [← hs]; exact hi
    have := hc i hi12 h0 e he (by rw [hq, Int.toNat_natCast]; exact hk)
    rw [hq, Int.toNat_natCast, ← hs] at this
    rw [set_same this]; exact hs
/-- One round more. -/
theorem PI.round {t : Tre} {on0 on : List Bool} {k : Nat} (h0 : RI t on0) (h : PI t on0 on 12) (hk : Clo t on0 on0 12 ∨ k + 1 ≤ trues on0) : Clo t on on 12 ∨ k + 2 ≤ trues on := by
  obtain ⟨c1, c2⟩ := count_sub on0 on (by rw [h0.len, h.ri.len]) h.sub
  rcases hk with hk | hk
  · left
    have := h.stay hk
    rw [this]; exact hk
  · by_cases e : trues on0 = trues on
    · left
      have := c2 e
      subst this
      exact h.clo
    · right; omega
theorem RI.end {t : Tre} {on : List Bool} (h : RI t on) (hk : Clo t on on 12 ∨ 13 ≤ trues on) (h12 : t.length = 12) (hall : ∀ n ∈ t, mayN n = true) : on = (List.range 12).map fun j => metB t 0 j && decide (kindT t j = 2) := by
  have hc : Clo t on on 12 := by
    rcases hk with hk | hk
    · exact hk
    · have := trues_le on; rw [h.len] at this; omega
  have hdir : ∀ i, i < 12 → entsT t i ≠ [] → kindT t i = 2 := fun i hi hne => by
    have hm : mayN (t.getD i default) = true := hall _ (by rw [getD_at (by omega)]; exact List.getElem_mem _)
    unfold mayN at hm
    split at hm
    · simp at hm; exact absurd hm.2 hne
    · split at hm
      · unfold fileB at hm; simp at hm; exact absurd hm.1.2 hne
      · split at hm
        · rename_i hk; exact hk
        · cases hm
  have hlt : ∀ i, entsT t i ≠ [] → i < 12 := fun i hne => by
    apply Classical.byContradiction
    intro hi
    apply hne
    show (t.getD i default).ents = []
    rw [List.getD_eq_getElem?_getD, List.getElem?_eq_none (by omega)]; rfl
  have hcomp : ∀ j, Reach t 0 j → kindT t j = 2 → on.getD j false = true := by
    intro j hj
    induction hj with
    | refl => exact fun _ => h.start
    | @step i x hi hx ih =>
      intro hk
      have hne : entsT t i ≠ [] := fun e => by
        have : x ∈ entsT t i := hx
        rw [e] at this; cases this
      have hi12 := hlt i hne
      exact hc i hi12 (ih (hdir i hi12 hne)) x hx hk
  apply List.ext_getElem (by simp [h.len])
  intro j h1 h2
  have e : on.getD j false = on[j] := by rw [List.getD_eq_getElem?_getD, List.getElem?_eq_getElem h1]; rfl
  rw [List.getElem_map, List.getElem_range, Bool.eq_iff_iff, Bool.and_eq_true, metB_iff, decide_eq_true_eq, ← e]
  exact ⟨h.sound j, fun ⟨a, b⟩ => hcomp j a b⟩
end Go.Proofs.Ytpalkdmngckcoaa
