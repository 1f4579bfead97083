/-
  PoolSeals: whatever comes, a Seal that names what is not there, a page twice, or the root, is refused, what is new is new no more, what is live stays, and the arguments stay as they were. Under no condition.
-/
import Derived.Test.YtgkmcnafkhdlnaaGreatPk1
import Derived.Test.YtgkmcnafkhdlnaaGreatRows
import Derived.Test.YtgkmcnafkhdlnaaGreatPk3
import Derived.Test.YtgkmcnafkhdlnaaGreatPk4
import Derived.ChangeMaps5
import Derived.ProofKit
import Derived.JoinedOf
namespace Go.Proofs.YtgkmcnafkhdlnaaGreat
open Go Go.RowKit Go.ChangeShapes Go.WideShapes Go.ChangeAt Go.ChangeMaps
theorem kidsOk : Kids Tryz.prog (· < Tryz.prog.types.size) := kids_rows laidOut rowed
theorem sliceOk {t e : TypeId} (ht : t < Tryz.prog.types.size) (h : Tryz.prog.underlying t = some (.slice e)) : 0 < Tryz.prog.cellsOf e := by
  have hall : ((List.range Tryz.prog.types.size).all fun t => match Tryz.prog.underlying t with
    | some (.slice e) => decide (0 < Tryz.prog.cellsOf e)
    | _ => true) = true := by kernel_rfl
  have := List.all_eq_true.1 hall t (List.mem_range.2 ht)
  rw [h] at this
  simpa using this
set_option maxRecDepth 100000 in
theorem poolSeals_lifted (os : Os) (started : os.Started) (H : Type) (enc : TypeId × Value → H) :
    ReturnsInHanded {} Tryz.checked os 6 .any (Rows.poolSealsSpec.pre6 enc Tryz.prog Tryz.f6 [] false)
      (Rows.poolSealsSpec.post enc Tryz.prog Tryz.f6 false true false false) := by
  refine returnsInHanded_of_change_shaped (C := Tryz.checked) own started (by kernel_rfl) Tryz.func6
    (ChangeSpec.witness6 (enc := enc) (C := Tryz.checked) false ⟨#[], #[.agg #[.int .i64 0, .int .i64 0, .int .i64 0, .int .i64 0, .int .i64 0], .slice none 0 0, .int .i64 0, .int .i64 0], []⟩ 8 (by kernel_rfl) (by kernel_rfl) (by kernel_rfl) (by kernel_rfl)) ?_
  intro W base args ds gs before hval0 hW _ _ hsh _
  have hval : ∀ (j : Nat) t v, Tryz.f6.params[j]? = some t → args[j]? = some v → Value.okWide Tryz.prog W .any base t v := hval0
  have hW' := hW
  obtain ⟨p, q, hA0, hV, rfl, _, _⟩ := hW
  have hA : DataW.TrodAll enc Tryz.prog W 0 (fun _ => true) true Tryz.f6.params.toList args.toList ds p := hA0
  rw [Tryz.params6] at hA hval
  obtain ⟨v0, v1, v2, v3, d0, d1, d2, d3, p0, p1, p2, p3, rfl, rfl, rfl, h0, h1, h2, h3⟩ := trodAll_four hA
  obtain ⟨rfl, rfl⟩ := trodVars_none hV
  obtain ⟨g0, rfl, kg⟩ := in_cfg Tryz.underlying23 cfgIn (hval 0 _ v0 rfl rfl) h0
  obtain ⟨s1, l1, rfl, k1⟩ := in_slice Tryz.underlying24 bytesIn (hval 1 _ v1 rfl rfl) h1
  obtain ⟨n2, rfl, rfl, rfl, w2⟩ := open_int Tryz.underlying3 (hval 2 _ v2 rfl rfl) h2
  obtain ⟨n3, rfl, rfl, rfl, w3⟩ := open_int Tryz.underlying3 (hval 3 _ v3 rfl rfl) h3
  exact post_true (tb := 4) kidsOk sliceOk rfl rfl Tryz.underlying4 (params_lt (by kernel_rfl)) hW' rfl (poolSeals_ok k1)
theorem poolSeals_holds : Rows.PoolSealsSaid :=
  OpenClaim.holds_of_wide 6 Tryz.f6 rfl rfl rfl rfl rfl rfl rfl ⟨rfl, rfl, rfl, rfl, rfl⟩ rfl rfl rfl rfl rfl (by kernel_rfl) Tryz.func6 (by kernel_rfl)
    (of_decide_eq_true (by kernel_rfl)) (by unfold Func.isWrapper; first | (rw [if_pos (by decide +kernel)]; kernel_rfl) | (rw [if_neg (by decide +kernel)]; exact ⟨rfl, rfl⟩))
    (fun os started H enc _ => poolSeals_lifted os started H enc)
#print axioms poolSeals_holds
end Go.Proofs.YtgkmcnafkhdlnaaGreat
