/- Rows that grow beside other blocks that are this call's own. -/
import Derived.Test.YtpalkdmngckcoaaData
namespace Go.Proofs.Ytpalkdmngckcoaa
open Go
theorem hide_mono {V V' : View} (h : V.Le V') (p : Nat) : (V.hide p).Le (V'.hide p) := by
  refine ⟨h.size, fun i o ho => ?_, h.out⟩
  unfold View.hide at *
  simp only at *
  split at ho
  · cases ho
  · rename_i hne; rw [if_neg hne]; exact h.see i o ho
theorem hide_see (V : View) (p i : Nat) : (V.hide p).see i = if i = p then none else V.see i := rfl
theorem hide_minus_see (V : View) (p : Nat) (x : Sl) (i : Nat) : ((V.hide p).minus x).see i = if i = p then none else (V.minus x).see i := by
  unfold View.minus
  split
  · rfl
  · simp only [hide_see]
    split <;> split <;> rfl
theorem minus_hide_le (V : View) (p : Nat) (x : Sl) : ((V.hide p).minus x).Le ((V.minus x).hide p) := by
  refine ⟨by unfold View.minus; split <;> exact Nat.le_refl _, fun i o ho => ?_, by unfold View.minus; split <;> rfl⟩
  rw [hide_minus_see] at ho
  rw [hide_see]; exact ho
theorem hide_minus_le (V : View) (p : Nat) (x : Sl) : ((V.minus x).hide p).Le ((V.hide p).minus x) := by
  refine ⟨by unfold View.minus; split <;> exact Nat.le_refl _, fun i o ho => ?_, by unfold View.minus; split <;> rfl⟩
  rw [hide_minus_see]
  rw [hide_see] at ho; exact ho
/-- A block beside a row of one's own is seen when that row is not. -/
theorem Buf.see_minus {V : View} {p : Nat} {o : Obj} {x : Sl} {e : TypeId} {sz : Nat} {cs : List Value} (h : Buf (V.hide p) x e sz cs) (ho : V.see p = some o) : (V.minus x).see p = some o := by
  unfold View.minus
  rcases h.own with ⟨ha, _⟩ | ⟨b, all, ha, hs, _⟩
  · rw [ha]; exact ho
  · rw [ha, hide_see]
    rw [hide_see] at hs
    split at hs
    · cases hs
    · rename_i hne; rw [if_neg (fun e => hne e.symm)]; exact ho
theorem Buf.hide {V : View} {p : Nat} {o : Obj} {x : Sl} {e : TypeId} {sz : Nat} {cs : List Value} (h : Buf V x e sz cs) (ho : (V.minus x).see p = some o) : Buf (V.hide p) x e sz cs := by
  refine ⟨h.len, h.le, h.lim, ?_⟩
  rcases h.own with h1 | ⟨b, all, ha, hs, h3⟩
  · exact .inl h1
  · refine .inr ⟨b, all, ha, ?_, h3⟩
    rw [hide_see]
    unfold View.minus at ho
    rw [ha, hide_see] at ho
    split at ho
    · cases ho
    · rename_i hne; rw [if_neg (fun e => hne e.symm)]; exact hs
theorem put_minus_le {V : View} {x : Sl} {r : Nat} {o : Obj} (h : V.see r = none) : (V.minus x).Le ((V.put r o).minus x) := minus_mono (View.put_le h) x
theorem Buf.put {V : View} {x : Sl} {e : TypeId} {sz : Nat} {cs : List Value} (h : Buf V x e sz cs) {r : Nat} {o : Obj} (hr : V.see r = none) : Buf (V.put r o) x e sz cs := h.mono (View.put_le hr)
/-- The first ones of a row of one's own. -/
theorem Buf.cut {V : View} {x : Sl} {e : TypeId} {sz : Nat} {cs : List Value} (h : Buf V x e sz cs) {k : Nat} (hk : k ≤ x.n) : Buf V ⟨x.a, k, x.c⟩ e sz (cs.take (k * sz)) := by
  have hle := Nat.mul_le_mul_right sz hk
  refine ⟨by simp only [List.length_take, h.len, Nat.min_eq_left hle], Nat.le_trans hk h.le, Nat.le_trans hk h.lim, ?_⟩
  rcases h.own with h1 | ⟨r, all, h1, h2, h3, h4⟩
  · exact .inl h1
  · refine .inr ⟨r, all, h1, h2, h3, ?_⟩
    rw [← h4, List.take_take, Nat.min_eq_left hle]
/-- What is appended, beside a block of one's own. -/
theorem apV_beside {V V0 : View} {p : Nat} {o : Obj} {e : TypeId} {sz bytes : Nat} {zero : List Value} {x : Sl} {y : Value} {C : Sl → View → Prop} {cs src : List Value} {m : Nat} (hz : zero.length = sz)
    (ho : V.see p = some o) (hb : Buf (V.hide p) x e sz cs) (hle : V0.Le ((V.hide p).minus x)) (hs : srcAt V sz zero y m src) (hl : src.length = m * sz) (h1 : src.all Value.oneCell' = true) (hm : (x.n + m) * bytes ≤ 140737488355328) (hm2 : x.n + m ≤ 140737488355328)
    (hC : ∀ s V', V'.see p = some o → Buf (V'.hide p) s e sz (cs ++ src) → V0.Le ((V'.hide p).minus s) → s.n = x.n + m → C s V') : apV V e sz bytes zero x y C := by
  refine apV_buf hz (hb.mono (View.hide_le V p)) hs hl h1 hm hm2 fun s V' hb' hn hle' => ?_
  have h2 := hle'.see _ _ (hb.see_minus ho)
  refine hC s V' ((View.minus_le V' s).see _ _ h2) (hb'.hide h2) ?_ hn
  exact hle.trans ((minus_hide_le V p x).trans ((hide_mono hle' p).trans (hide_minus_le V' p s)))
/-- A call that needs nothing of a row of one's own leaves it as it was. -/
theorem CallV.besideB {P : Program} {f : FuncId} {args : Array Value} {V : View} {x : Sl} {e : TypeId} {sz : Nat} {cs : List Value} {K : Value → View → Prop} (h : CallV P f args (V.minus x) K) (hb : Buf V x e sz cs) :
    CallV P f args V fun r V' => ∃ U', K r U' ∧ U'.Le (V'.minus x) ∧ Buf V' x e sz cs := by
  rcases hb.own with ⟨ha, hc⟩ | ⟨b, all, ha, hs, h3⟩
  · have e1 : V.minus x = V := by unfold View.minus; rw [ha]
    rw [e1] at h
    refine h.mono fun r V' hk => ⟨V', hk, ?_, ⟨hb.len, hb.le, hb.lim, .inl ⟨ha, hc⟩⟩⟩
    unfold View.minus; rw [ha]; exact View.Le.refl _
  · have e1 : V.minus x = V.hide b := by unfold View.minus; rw [ha]
    rw [e1] at h
    refine (CallV.frame (View.hide_le V b) h).mono ?_
    rintro r V' ⟨U', hk, hle, hrest⟩
    have hp : (V.hide b).see b = none := by simp [View.hide]
    obtain ⟨h4, h5⟩ := hrest b _ hp hs
    refine ⟨U', hk, ?_, ⟨hb.len, hb.le, hb.lim, .inr ⟨b, all, ha, h4, h3⟩⟩⟩
    have e2 : V'.minus x = V'.hide b := by unfold View.minus; rw [ha]
    rw [e2]
    refine ⟨hle.size, fun i o ho => ?_, hle.out⟩
    have hne : i ≠ b := fun e => by rw [e, h5] at ho; cases ho
    rw [hide_see, if_neg hne]; exact hle.see i o ho
theorem Buf.n_eq {α : Type} [Rep α] {W V : View} {x : Sl} {e : TypeId} {cs : List Value} {l : List α} (h : Buf V x e (Rep.sz α) cs) (hr : repL W cs l) : x.n = l.length :=
  Nat.eq_of_mul_eq_mul_right (Rep.pos (α := α)) (h.len.symm.trans hr.len)
/-- The cells of a new block, as a row. -/
theorem rowAt_new {V : View} {r : Nat} {cs : List Value} {e : TypeId} {f : Nat × Nat} (h : V.see r = some (.cells ⟨cs⟩ e f)) {k : Nat} (hk : cs.length = k) : rowAt V (some ⟨r, 0, none⟩) k cs :=
  ⟨hk, cellsAt_of_see h fun j v hj => by simpa using hj⟩
theorem put_le_hide {V U : View} {r : Nat} {o : Obj} (hr : V.see r = none) (h : U.Le V) : U.Le ((V.put r o).hide r) :=
  h.trans ⟨Nat.le_max_left _ _, fun i o' ho => by
    have hne : i ≠ r := fun e => by rw [e, hr] at ho; cases ho
    rw [hide_see, if_neg hne, View.see_put_ne V _ hne]; exact ho, rfl⟩
theorem minus_see_none {V : View} {x : Sl} {r : Nat} (h : V.see r = none) : (V.minus x).see r = none := by
  unfold View.minus; split
  · exact h
  · rw [hide_see]; split
    · rfl
    · exact h
end Go.Proofs.Ytpalkdmngckcoaa
