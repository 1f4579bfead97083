/- The contract of the reference's Name. -/
import Derived.Test.YtpalkdmngckcoaaMayOk
namespace Go.Proofs.Ytpalkdmngckcoaa
open Go
theorem refName_ok {s : ByteArray} {V : View} (hs : s.size ≤ 9223372036854775807) : CallV Try.prog 81 ⟨[.string s]⟩ V fun r V' => r = .bool (mayB s) ∧ V' = V := by
  refine f81_x ?_
  unfold f81_n
  refine br_intro (fun h => ⟨?_, rfl⟩) (fun h => ?_)
  · congr 1
    symm
    unfold mayB
    rw [Bool.and_eq_false_iff]
    right
    rw [Bool.eq_false_iff]
    intro h2
    simp at h h2
    simp [h2] at h
    omega
  have hpre : (1 ≤ s.size && s.size ≤ 8 && !decide (s = ByteArray.mk #[46]) && !decide (s = ByteArray.mk #[46, 46])) = true := by
    simp at h ⊢
    refine ⟨⟨by omega, h.1.2⟩, h.2⟩
  refine loop1 (k := .int .i64) (fun (x : Int) V' => V' = V ∧ 0 ≤ x ∧ x ≤ s.size ∧ (s.data.toList.take x.toNat).all (fun b => okB b.toNat) = true) (fun (x : Int) _ => s.size - x.toNat) ⟨rfl, by omega, by omega, rfl⟩ ?_
  rintro (x : Int) V' ⟨rfl, h0, h1, h2⟩
  have hsz : s.data.toList.length = s.size := by simp
  refine br_intro (fun hlt => ?_) (fun hge => ?_)
  · have hlt : x < s.size := by simpa using hlt
    have hx : x.toNat < s.data.toList.length := by omega
    have hg : s.data.toList.getD x.toNat 0 = s.data.toList[x.toNat] := by rw [List.getD_eq_getElem?_getD, List.getElem?_eq_getElem hx]; rfl
    refine ⟨h0, hlt, ?_⟩
    rw [hg]
    generalize hb : s.data.toList[x.toNat] = b
    refine br_intro (fun hn => ⟨?_, rfl⟩) (fun hn => ⟨inI64 (by omega) (by omega), ⟨rfl, by omega, by omega, ?_⟩, by omega⟩)
    · have hk : okB b.toNat = false := by
        unfold okB
        simp at hn ⊢
        omega
      unfold mayB
      have : (s.data.toList.all fun b => okB b.toNat) = false := by
        rw [List.all_eq_false]
        exact ⟨b, hb ▸ List.getElem_mem hx, by simp [hk]⟩
      rw [show bl s = s.data.toList from rfl, this]; rfl
    · have hk : okB b.toNat = true := by
        unfold okB
        simp at hn ⊢
        omega
      rw [show (x + 1).toNat = x.toNat + 1 by omega, List.take_add_one, List.all_append, h2, List.getElem?_eq_getElem hx, hb]
      simp [hk]
  · have hge : ¬ x < s.size := by simpa using hge
    rw [List.take_of_length_le (by omega)] at h2
    refine ⟨?_, rfl⟩
    unfold mayB
    rw [show bl s = s.data.toList from rfl, h2, hpre]; rfl
end Go.Proofs.Ytpalkdmngckcoaa
