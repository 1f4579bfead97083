/- Small things. -/
import Derived.Test.YtpalkdmngckcoaaRep
namespace Go.Proofs.Ytpalkdmngckcoaa
open Go
theorem inI64 {n : Int} (h1 : -9223372036854775808 ≤ n) (h2 : n ≤ 9223372036854775807) : inI .i64 n := ⟨h1, h2⟩
theorem inI64_iff {n : Int} : inI .i64 n ↔ -9223372036854775808 ≤ n ∧ n ≤ 9223372036854775807 := Iff.rfl
theorem one64 : inI .i64 1 := inI64 (by decide) (by decide)
theorem two64 : inI .i64 2 := inI64 (by decide) (by decide)
theorem zero64 : inI .i64 0 := inI64 (by decide) (by decide)
/-- The place of the first of which p holds; -1: there is none. -/
def idxI {α : Type} (p : α → Bool) : List α → Int
  | [] => -1
  | x :: l => if p x then 0 else match idxI p l with
    | .ofNat n => n + 1
    | .negSucc _ => -1
theorem idxI_range {α : Type} (p : α → Bool) : ∀ l : List α, idxI p l = -1 ∧ l.any p = false ∨ (0 ≤ idxI p l ∧ idxI p l < l.length ∧ l.any p = true)
  | [] => .inl ⟨rfl, rfl⟩
  | x :: l => by
    unfold idxI
    by_cases h : p x = true
    · right; rw [if_pos h]; simp [h]
    · rw [if_neg h]
      rcases idxI_range p l with ⟨h1, h2⟩ | ⟨h1, h2, h3⟩
      · left; rw [h1]; simp [h, h2]; rfl
      · right
        cases hc : idxI p l with
        | ofNat n => rw [hc] at h2; simp only [Int.ofNat_eq_natCast] at h2; simp [h3]; omega
        | negSucc n => rw [hc] at h1; omega
theorem idxI_first {α : Type} (p : α → Bool) : ∀ (l : List α) (i : Nat) (h : i < l.length), (∀ j (hj : j < i), p (l[j]'(by omega)) = false) → p l[i] = true → idxI p l = i
  | x :: l, 0, _, _, h2 => by unfold idxI; rw [if_pos (by simpa using h2)]; rfl
  | x :: l, i + 1, h, h1, h2 => by
    have h0 := h1 0 (by omega)
    simp only [List.getElem_cons_zero] at h0
    unfold idxI
    rw [if_neg (by rw [h0]; simp), idxI_first p l i (by simpa using h) (fun j hj => by have := h1 (j + 1) (by omega); simpa using this) (by simpa using h2)]
    simp
theorem idxI_none {α : Type} (p : α → Bool) : ∀ (l : List α), (∀ x ∈ l, p x = false) → idxI p l = -1
  | [], _ => rfl
  | x :: l, h => by
    unfold idxI
    rw [if_neg (by rw [h x (by simp)]; simp), idxI_none p l (fun y hy => h y (by simp [hy]))]
    rfl
end Go.Proofs.Ytpalkdmngckcoaa
