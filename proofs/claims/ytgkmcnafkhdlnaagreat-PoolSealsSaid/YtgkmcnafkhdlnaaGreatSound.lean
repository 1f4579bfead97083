/- The executor of YtgkmcnafkhdlnaaGreatCore is right: operations. -/
import Derived.Test.YtgkmcnafkhdlnaaGreatCore
import Derived.Laws.AppendOwn
import Derived.Laws.Cells
import Derived.Laws.Strings
set_option linter.unusedSimpArgs false
set_option linter.unusedVariables false
namespace Go.Proofs.YtgkmcnafkhdlnaaGreat
open Go Go.RowKit

def RV.val (bx : List Box) : RV → Value
  | .v x => x
  | .box i off => .pointer (some ⟨(bx[i]?.map (·.blk)).getD 0, off, none⟩)
theorem toV_val {bx : List Box} {r : RV} {v : Value} (h : toV bx r = some v) : r.val bx = v := by
  cases r with
  | v x => simpa [toV, RV.val] using h
  | box i off =>
    simp only [toV] at h
    split at h
    · rename_i ver b ty he
      rw [← Option.some.inj h]
      simp [RV.val, he]
    · cases h

/-- What is known of the boxes. -/
structure BoxesOk (n0 : Nat) (V : View) (w : World) (bx : List Box) : Prop where
  lo : ∀ (i : Nat) (b : Box), bx[i]? = some b → n0 ≤ b.blk ∧ b.blk < w.heap.size
  shut : ∀ (i : Nat) (b : Box) (cs : List Value), bx[i]? = some b → b.cells = some cs → V.see b.blk = none ∧ w.heap[b.blk]? = some (.cells ⟨cs⟩ b.ty (0, 0))
  ne : ∀ (i j : Nat) (b c : Box), bx[i]? = some b → bx[j]? = some c → b.blk = c.blk → i = j
structure Inv [DrK] (V0 : View) (w0 : World) (V : View) (w : World) (bx : List Box) : Prop where
  isIn : V.In w
  fr : Fr V0 w0 V w
  boxes : BoxesOk w0.heap.size V w bx
/-- A world in which what is read gives what it should. -/
structure Good (S : View) (bx : List Box) (w : World) : Prop where
  isIn : S.Sees w
  shut : ∀ (i : Nat) (b : Box) (cs : List Value), bx[i]? = some b → b.cells = some cs → w.heap[b.blk]? = some (.cells ⟨cs⟩ b.ty (0, 0))
theorem Inv.good [DrK] {V0 V : View} {w0 w : World} {bx : List Box} (h : Inv V0 w0 V w bx) : Good V bx w := ⟨h.isIn.see, fun i b cs hb hc => (h.boxes.shut i b cs hb hc).2⟩

/-- A world's step. -/
abbrev yields (P : Program) (s : Sem Next) (v : Value) (G : World → Prop) : Prop := ∀ w, G w → s.run P w = .ok (.value v) w

section
variable {P : Program}

theorem vals_val [DrK] {bx : List Box} {ρ : Operand → Option RV} {η : Operand → Value} (hρ : ∀ x r, ρ x = some r → η x = r.val bx) :
    ∀ (l : List Operand) (vs : List Value), vals bx ρ l = some vs → l.map η = vs
  | [], vs, h => by simp only [vals, Option.some.injEq] at h; subst h; rfl
  | x :: xs, vs, h => by
    simp only [vals] at h
    split at h
    · rename_i r us hr hus
      split at h
      · rename_i v hv
        simp only [Option.some.injEq] at h
        subst h
        rw [List.map_cons, vals_val hρ xs us hus, hρ x r hr, toV_val hv]
      · cases h
    · cases h

theorem run_underlying {t : TypeId} {d : TypeDesc} (h : P.underlying t = some d) (w : World) : (underlying t).run P w = .ok d w := by
  simp [underlying, h]
theorem info_of_underlying {t : TypeId} {d : TypeDesc} (h : P.underlying t = some d) : ∃ i, P.info? t = some i := by
  unfold Program.underlying at h
  cases hi : P.info? t with
  | none => rw [hi] at h; simp at h
  | some i => exact ⟨i, rfl⟩
theorem run_sizeOf [DrK] {t : TypeId} {d : TypeDesc} (h : P.underlying t = some d) (w : World) : (sizeOf t).run P w = .ok (P.cellsOf t) w := by
  obtain ⟨i, hi⟩ := info_of_underlying h
  simp [sizeOf, typeInfo, hi, Program.cellsOf]
theorem run_sizeOf' {t : TypeId} {i : TypeInfo} (h : P.info? t = some i) (w : World) : (sizeOf t).run P w = .ok (P.cellsOf t) w := by
  simp [sizeOf, typeInfo, h, Program.cellsOf]

theorem exTy_spec : ∀ (ks : List K) (C : List Value → Prop), exTy ks C → ∃ vs, vs.length = ks.length ∧ (∀ v ∈ vs, ∃ (k : K) (x : k.ty), v = k.up x) ∧ C vs
  | [], C, h => ⟨[], rfl, by simp, h⟩
  | k :: ks, C, ⟨x, h⟩ => by
    obtain ⟨vs, hl, ha, hc⟩ := exTy_spec ks _ h
    refine ⟨k.up x :: vs, by simp [hl], ?_, hc⟩
    intro v hv
    rcases List.mem_cons.1 hv with rfl | hv
    · exact ⟨k, x, rfl⟩
    · exact ha v hv

def aggD : TypeDesc → Bool
  | .struct _ | .array _ _ => true
  | _ => false
theorem vk_agg {t : TypeId} {ks : List K} (h : vk P t = some (.agg ks)) : ∃ d, P.underlying t = some d ∧ aggD d = true ∧ P.cellsOf t = ks.length := by
  unfold vk at h
  split at h
  · rename_i fs hu
    split at h
    · split at h
      · cases h; exact ⟨_, hu, rfl, by assumption⟩
      · cases h
    · cases h
  · rename_i n e hu
    split at h
    · split at h
      · cases h; exact ⟨_, hu, rfl, by assumption⟩
      · cases h
    · cases h
  · split at h <;> cases h
theorem vk_one {t : TypeId} {k : K} (h : vk P t = some (.one k)) : ∃ d, P.underlying t = some d ∧ aggD d = false := by
  unfold vk at h
  split at h
  · split at h
    · split at h <;> cases h
    · cases h
  · split at h
    · split at h <;> cases h
    · cases h
  · rename_i h1 h2
    split at h
    · rename_i k' hk
      cases hu : P.underlying t with
      | none => simp [kinds, hu] at hk
      | some d =>
        refine ⟨d, rfl, ?_⟩
        cases d <;> first | rfl | exact absurd hu (h1 _) | exact absurd hu (h2 _ _)
    · cases h
theorem run_isAgg [DrK] {t : TypeId} {d : TypeDesc} (h : P.underlying t = some d) (w : World) : (isAgg t).run P w = .ok (aggD d) w := by
  simp only [isAgg, Sem.run_bind, run_underlying h, Result.andThen]
  cases d <;> rfl

theorem ldV_run [DrK] {S : View} {a : Addr} {k : VK} {C : Value → Prop} {t : TypeId} (hk : vk P t = some k) (h : ldV S a k C) :
    ∃ v, (∀ w, S.Sees w → (loadVar t a).run P w = .ok v w) ∧ C v := by
  cases k with
  | one k =>
    obtain ⟨x, hc, hC⟩ := h
    obtain ⟨d, hu, hd⟩ := vk_one hk
    refine ⟨_, fun w hw => ?_, hC⟩
    simp [loadVar, run_isAgg hu, hd, hw.cell hc]
  | agg ks =>
    obtain ⟨vs, hl, _, hc, hC⟩ := exTy_spec _ _ h
    obtain ⟨d, hu, hd, hs⟩ := vk_agg hk
    refine ⟨_, fun w hw => ?_, hC⟩
    have := run_loadCells_list (P := P) w a vs (fun j v hj => hw.cell (hc j v hj))
    simp [loadVar, run_isAgg hu, hd, run_sizeOf hu, hs, ← hl, this]

theorem addr_add (b o j : Nat) : (⟨b, o, none⟩ : Addr).add j = ⟨b, o + j, none⟩ := by
  unfold Addr.add
  by_cases h : j = 0
  · subst h; rfl
  · rw [if_neg h]
theorem Good.box {S : View} {bx : List Box} {w : World} (h : Good S bx w) {i : Nat} {b : Box} {cs : List Value} (hb : bx[i]? = some b) (hc : b.cells = some cs) (j : Nat) :
    w.cell? ⟨b.blk, j, none⟩ = cs[j]? := by
  simp [World.cell?, h.shut i b cs hb hc]
theorem partX_run [DrK] {bx : List Box} {S : View} {i off : Nat} {b : Box} {cs : List Value} {t : TypeId} {v : Value} (hb : bx[i]? = some b) (hc : b.cells = some cs)
    (h : partX P t cs off = some v) (w : World) (hw : Good S bx w) : (loadVar t ⟨b.blk, off, none⟩).run P w = .ok v w := by
  unfold partX at h
  cases hu : P.underlying t with
  | none => simp [hu] at h
  | some d =>
    have hcell := hw.box hb hc
    cases hd : aggD d with
    | true =>
      have hv2 : off + P.cellsOf t ≤ cs.length ∧ Value.agg ⟨(cs.drop off).take (P.cellsOf t)⟩ = v := by
        rw [hu] at h
        cases d <;> simp only [aggD, Bool.false_eq_true] at hd <;> dsimp only at h <;> split at h <;> first
          | exact ⟨by assumption, Option.some.inj h⟩
          | cases h
      obtain ⟨hl', hv1⟩ := hv2
      have hv := hv1.symm
      have hlen : ((cs.drop off).take (P.cellsOf t)).length = P.cellsOf t := by simp; omega
      have := run_loadCells_list (P := P) w ⟨b.blk, off, none⟩ ((cs.drop off).take (P.cellsOf t)) (fun j u hj => by
        have hadd := addr_add b.blk off j
        rw [hadd, hcell]
        have hjl : j < P.cellsOf t := by
          rcases Nat.lt_or_ge j (P.cellsOf t) with h' | h'
          · exact h'
          · rw [List.getElem?_eq_none (by rw [hlen]; exact h')] at hj; cases hj
        rw [List.getElem?_take, if_pos hjl, List.getElem?_drop] at hj
        exact hj)
      rw [hlen] at this
      simp [loadVar, run_isAgg hu, hd, run_sizeOf hu, this, hv]
    | false =>
      have hv : cs[off]? = some v := by
        rw [hu] at h
        cases d <;> simp [aggD] at hd <;> simpa using h
      simp [loadVar, run_isAgg hu, hd, hcell, hv]
end
end Go.Proofs.YtgkmcnafkhdlnaaGreat
