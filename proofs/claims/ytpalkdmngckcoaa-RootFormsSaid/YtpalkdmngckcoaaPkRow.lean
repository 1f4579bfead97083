/-
  RootForms: whatever comes, the statement answers true and leaves its arguments as they were. Under no condition.
-/
import Derived.Test.YtpalkdmngckcoaaPk1
import Derived.Test.YtpalkdmngckcoaaRows
import Derived.Test.YtpalkdmngckcoaaPk4
import Derived.ChangeMaps5
import Derived.ProofKit
import Derived.JoinedOf
namespace Go.Proofs.Ytpalkdmngckcoaa
open Go Go.RowKit Go.ChangeShapes Go.WideShapes Go.ChangeAt Go.ChangeMaps
theorem kidsOk : Kids Try.prog (· < Try.prog.types.size) := kids_rows laidOut rowed
theorem sliceOk {t e : TypeId} (ht : t < Try.prog.types.size) (h : Try.prog.underlying t = some (.slice e)) : 0 < Try.prog.cellsOf e := by
  have hall : ((List.range Try.prog.types.size).all fun t => match Try.prog.underlying t with
    | some (.slice e) => decide (0 < Try.prog.cellsOf e)
    | _ => true) = true := by kernel_rfl
  have := List.all_eq_true.1 hall t (List.mem_range.2 ht)
  rw [h] at this
  simpa using this
theorem wf_i64 {n : Int} (h : (Lit.int .i64 n).wf = true) : inI .i64 n := by
  simpa [Lit.wf, inI] using h
theorem wf_u8 {n : Int} (h : (Lit.int .u8 n).wf = true) : ∃ c : UInt8, (c.toNat : Int) = n := by
  have h2 : 0 ≤ n ∧ n ≤ 255 := by simpa [Lit.wf, IntKind.min, IntKind.max, IntKind.signed, IntKind.bits] using h
  exact ⟨UInt8.ofNat n.toNat, by rw [UInt8.toNat_ofNat']; omega⟩
set_option maxRecDepth 100000 in
theorem rootForms_lifted (os : Os) (started : os.Started) (H : Type) (enc : TypeId × Value → H) :
    ReturnsInHanded {} Try.checked os 7 .any (Rows.rootFormsSpec.pre6 enc Try.prog Try.f7 [] false)
      (Rows.rootFormsSpec.post enc Try.prog Try.f7 false true false false) := by
  refine returnsInHanded_of_change_shaped (C := Try.checked) own started (by kernel_rfl) Try.func7
    (ChangeSpec.witness6 (enc := enc) (C := Try.checked) false ⟨#[], #[.agg #[.slice none 0 0], .slice none 0 0], []⟩ 8 (by kernel_rfl) (by kernel_rfl) (by kernel_rfl) (by kernel_rfl)) ?_
  intro W base args ds gs before hval0 hW _ _ hsh _
  have hval : ∀ (j : Nat) t v, Try.f7.params[j]? = some t → args[j]? = some v → Value.okWide Try.prog W .any base t v := hval0
  have hW' := hW
  obtain ⟨p, q, hA0, hV, rfl, _, _⟩ := hW
  have hA : DataW.TrodAll enc Try.prog W 0 (fun _ => true) true Try.f7.params.toList args.toList ds p := hA0
  rw [Try.params7] at hA hval
  obtain ⟨v0, v1, d0, d1, p0, p1, rfl, rfl, rfl, h0, h1⟩ := trodAll_two hA
  obtain ⟨rfl, rfl⟩ := trodVars_none hV
  obtain ⟨s0, l0, rfl, k0⟩ := in_tree Try.underlying26 (by kernel_rfl) (by kernel_rfl) (by kernel_rfl) nodsIn (hval 0 _ v0 rfl rfl) h0
  obtain ⟨s1, l1, rfl, k1⟩ := in_slice Try.underlying22 bytesIn (hval 1 _ v1 rfl rfl) h1
  exact post_true (tb := 4) kidsOk sliceOk rfl rfl Try.underlying4 (params_lt (by kernel_rfl)) hW' rfl (rootForms_ok k0 k1)
theorem rootForms_holds : Rows.RootFormsSaid :=
  OpenClaim.holds_of_wide 7 Try.f7 rfl rfl rfl rfl rfl rfl rfl ⟨rfl, rfl, rfl, rfl, rfl⟩ rfl rfl rfl rfl rfl (by kernel_rfl) Try.func7 (by kernel_rfl)
    (of_decide_eq_true (by kernel_rfl)) (by unfold Func.isWrapper; first | (rw [if_pos (by decide +kernel)]; kernel_rfl) | (rw [if_neg (by decide +kernel)]; exact ⟨rfl, rfl⟩))
    (fun os started H enc _ => rootForms_lifted os started H enc)
#print axioms rootForms_holds
end Go.Proofs.Ytpalkdmngckcoaa
