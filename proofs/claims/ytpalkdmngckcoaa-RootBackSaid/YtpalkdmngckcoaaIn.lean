/- How rows and trees come in. -/
import Derived.Test.YtpalkdmngckcoaaData
namespace Go.Proofs.Ytpalkdmngckcoaa
open Go Go.RowKit Go.ChangeShapes Go.WideShapes
section
variable {H : Type} {enc : TypeId × Value → H} {P : Program} {w : World} {base b0 : Nat} {sp : Nat → Bool} {held : Bool} {r : Reach} {v : Value} {d : DataW H} {ps : List MemPlace}
theorem in_slice {α : Type} [Rep α] {t e : TypeId} (ht : P.underlying t = some (.slice e)) (hT : TrodRep P (List α) t) (hv : Value.okWide P w r b0 t v) (hd : DataW.Trod enc P w base sp held t v d ps) :
    ∃ (s : Sl) (l : List α), v = .slice s.a s.n s.c ∧ SlR (View.all w) s l := by
  obtain ⟨a, len, cap, rfl⟩ := okWide_slice ht hv
  obtain ⟨fuel, hf⟩ := hd
  obtain ⟨l, s, he, hs⟩ := hT.of hf
  simp [Value.cells] at he
  exact ⟨s, l, by rw [he.1, he.2.1, he.2.2], hs⟩
theorem in_tree {α : Type} [Rep α] {t te : TypeId} {fs : Array Field} (ht : P.underlying t = some (.struct fs)) (h0 : fieldX P t 0 = some (0, te)) (hc : P.cellsOf t = 1) (hce : P.cellsOf te = 1) (hT : TrodRep P (List α) te) (hv : Value.okWide P w r b0 t v) (hd : DataW.Trod enc P w base sp held t v d ps) :
    ∃ (s : Sl) (l : List α), v = .agg ⟨[.slice s.a s.n s.c]⟩ ∧ SlR (View.all w) s l := by
  obtain ⟨cs, rfl, hsz⟩ := okWide_struct ht hv
  obtain ⟨fuel, hf⟩ := hd
  obtain ⟨hl, n, y, g⟩ := trod_field h0 hf
  obtain ⟨cs⟩ := cs
  rw [hc] at hsz hl
  match cs, hsz with
  | [c], _ =>
    rw [hce] at g
    obtain ⟨l, s, he, hs⟩ := hT.of g
    simp [Value.cells] at he
    exact ⟨s, l, by rw [he], hs⟩
end
end Go.Proofs.Ytpalkdmngckcoaa
