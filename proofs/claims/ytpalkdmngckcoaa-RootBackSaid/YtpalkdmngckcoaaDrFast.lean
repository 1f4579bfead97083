/- May operations be taken in an order: the same check over bits of a number. -/
import Derived.Test.YtpalkdmngckcoaaSoundC
namespace Go.Proofs.Ytpalkdmngckcoaa
open Go
def rdyM (ops : Array Oper) (m : Nat) : List Nat := (List.range ops.size).filter fun i => !Nat.testBit m i && ((ops[i]?).map (fun o => o.after.all fun e => !Region.binds .any e || Nat.testBit m e.on)).getD false
def freeM (ops : Array Oper) (m i : Nat) : Bool := match ops[i]? with
  | none => false
  | some oi => (List.range ops.size).all fun j => j == i || Nat.testBit m j || match ops[j]? with
      | some oj => oj.after.any (fun e => Region.binds .any e && e.on == i) || oi.apart ops oj
      | none => true
def drFromM (P : Program) (ops : Array Oper) : DT → Bool → Nat → Bool → Bool
  | .done, true, m, _ => (rdyM ops m).isEmpty
  | .done, false, _, _ => false
  | .no, top, _, _ => !top
  | .fl i t, true, m, dead => match ops[i]? with
    | some o => floats P o.op && freeM ops m i && (rdyM ops m).contains i && !(isLoad P o.op && dead) && drFromM P ops t true (m ||| 2 ^ i) dead
    | none => false
  | .fl _ _, false, _, _ => false
  | .alt i e _ t r, top, m, dead => match ops[i]? with
    | some o => !floats P o.op && e == early P ops i && (!top || rdyM ops m == i :: r.heads) && !(early P ops i && dead) && drFromM P ops t true (m ||| 2 ^ i) (dead || !early P ops i) &&
        (r.heads.isEmpty || r.depth == t.depth + 1) && drFromM P ops r false m dead
    | none => false
/-- The listed ones are the bits of m. -/
structure BitsR (ops : Array Oper) (listed : Array Bool) (m : Nat) : Prop where
  size : listed.size = ops.size
  bit : ∀ j d, j < ops.size → listed.getD j d = Nat.testBit m j
  out : ∀ j, ops.size ≤ j → Nat.testBit m j = false
theorem BitsR.get {ops : Array Oper} {listed : Array Bool} {m : Nat} (h : BitsR ops listed m) (j : Nat) : listed.getD j false = Nat.testBit m j := by
  by_cases hj : j < ops.size
  · exact h.bit j false hj
  · rw [h.out j (by omega)]
    unfold Array.getD
    rw [dif_neg (by rw [h.size]; exact hj)]
theorem BitsR.set {ops : Array Oper} {listed : Array Bool} {m : Nat} (h : BitsR ops listed m) {i : Nat} (hi : i < ops.size) : BitsR ops (listed.setIfInBounds i true) (m ||| 2 ^ i) := by
  refine ⟨by rw [Array.size_setIfInBounds]; exact h.size, fun j d hj => ?_, fun j hj => ?_⟩
  · have hb := h.bit j d hj
    rw [Nat.testBit_or, Nat.testBit_two_pow]
    rw [Array.getD_eq_getD_getElem?] at hb ⊢
    rw [Array.getElem?_setIfInBounds]
    by_cases e : i = j
    · subst e
      rw [if_pos rfl, if_pos (by rw [h.size]; exact hi)]
      simp
    · rw [if_neg e, hb, decide_eq_false e, Bool.or_false]
  · rw [Nat.testBit_or, Nat.testBit_two_pow, h.out j hj, decide_eq_false (by omega)]; rfl
theorem rdy_eq {ops : Array Oper} {listed : Array Bool} {m : Nat} (h : BitsR ops listed m) : Region.ready .any ops listed = rdyM ops m := by
  unfold Region.ready rdyM
  apply List.filter_congr
  intro i hi
  rw [h.bit i true (List.mem_range.1 hi)]
  have : ∀ (o : Oper), (o.after.all fun e => !Region.binds .any e || listed.getD e.on false) = (o.after.all fun e => !Region.binds .any e || Nat.testBit m e.on) := fun o => by
    congr 1
    funext e
    rw [h.get]
  simp only [this]
theorem free_eq {ops : Array Oper} {listed : Array Bool} {m : Nat} (h : BitsR ops listed m) (i : Nat) : Region.free .any ops listed i = freeM ops m i := by
  unfold Region.free freeM
  cases ho : ops[i]? with
  | none => rfl
  | some oi =>
    simp only
    rw [Bool.eq_iff_iff, List.all_eq_true, List.all_eq_true]
    constructor
    · intro hall j hj
      have := hall j hj
      rw [h.bit j true (List.mem_range.1 hj)] at this
      exact this
    · intro hall j hj
      have := hall j hj
      rw [h.bit j true (List.mem_range.1 hj)]
      exact this
theorem drFrom_eq {P : Program} {ops : Array Oper} : ∀ (D : DT) (top : Bool) (listed : Array Bool) (m : Nat) (dead : Bool), BitsR ops listed m → drFrom P ops D top listed dead = drFromM P ops D top m dead
  | .done, true, listed, m, dead, h => by unfold drFrom drFromM; rw [rdy_eq h]
  | .done, false, _, _, _, _ => by unfold drFrom drFromM; rfl
  | .no, _, _, _, _, _ => by unfold drFrom drFromM; rfl
  | .fl i t, true, listed, m, dead, h => by
    unfold drFrom drFromM
    rw [rdy_eq h, free_eq h]
    cases ho : ops[i]? with
    | none => rfl
    | some o =>
      have hi : i < ops.size := (Array.getElem?_eq_some_iff.1 ho).1
      simp only
      rw [drFrom_eq t true _ _ dead (h.set hi)]
  | .fl _ _, false, _, _, _, _ => by unfold drFrom drFromM; rfl
  | .alt i e g t r, top, listed, m, dead, h => by
    unfold drFrom drFromM
    rw [rdy_eq h]
    cases ho : ops[i]? with
    | none => rfl
    | some o =>
      have hi : i < ops.size := (Array.getElem?_eq_some_iff.1 ho).1
      simp only
      rw [drFrom_eq t true _ _ _ (h.set hi), drFrom_eq r false _ _ dead h]
theorem drOk_fast {P : Program} {ops : Array Oper} {sched : DT} (h : (Region.noSelect ops && drFromM P ops sched true 0 false && sched.depth == ops.size) = true) : drOk P ops sched := by
  have h0 : BitsR ops (Array.replicate ops.size false) 0 := by
    refine ⟨Array.size_replicate, fun j d hj => ?_, fun j _ => Nat.zero_testBit j⟩
    rw [Array.getD_eq_getD_getElem?, Array.getElem?_replicate, if_pos hj, Nat.zero_testBit]; rfl
  unfold drOk
  rw [drFrom_eq sched true _ _ false h0, h]
  trivial
/-- The numbers that come up, written out. -/
inductive MT where
  | nil
  | fl (m : Nat) (t : MT)
  | alt (m : Nat) (d : Bool) (t r : MT)
def drFromL (P : Program) (ops : Array Oper) : DT → MT → Bool → Nat → Bool → Bool
  | .done, _, true, m, _ => (rdyM ops m).isEmpty
  | .no, _, top, _, _ => !top
  | .fl i t, .fl m' t', true, m, dead => Nat.beq (Nat.lor m (2 ^ i)) m' && match ops[i]? with
    | some o => floats P o.op && freeM ops m i && (rdyM ops m).contains i && !(isLoad P o.op && dead) && drFromL P ops t t' true m' dead
    | none => false
  | .alt i e _ t r, .alt m' d' t' r', top, m, dead => Nat.beq (Nat.lor m (2 ^ i)) m' && ((dead || !early P ops i) == d') && match ops[i]? with
    | some o => !floats P o.op && e == early P ops i && (!top || rdyM ops m == i :: r.heads) && !(early P ops i && dead) && drFromL P ops t t' true m' d' &&
        (r.heads.isEmpty || r.depth == t.depth + 1) && drFromL P ops r r' false m dead
    | none => false
  | _, _, _, _, _ => false
theorem drL_sound {P : Program} {ops : Array Oper} : ∀ (D : DT) (M : MT) (top : Bool) (m : Nat) (dead : Bool), drFromL P ops D M top m dead = true → drFromM P ops D top m dead = true
  | .done, M, true, m, dead, h => by cases M <;> exact h
  | .done, M, false, m, dead, h => by cases M <;> cases h
  | .no, M, top, m, dead, h => by cases M <;> exact h
  | .fl i t, .nil, top, m, dead, h => by cases top <;> cases h
  | .fl i t, .alt _ _ _ _, top, m, dead, h => by cases top <;> cases h
  | .fl i t, .fl m' t', false, m, dead, h => by cases h
  | .fl i t, .fl m' t', true, m, dead, h => by
    unfold drFromL at h
    rw [Bool.and_eq_true] at h
    obtain ⟨h1, h2⟩ := h
    have h1 : m ||| 2 ^ i = m' := Nat.eq_of_beq_eq_true h1
    unfold drFromM
    cases ho : ops[i]? with
    | none => rw [ho] at h2; cases h2
    | some o =>
      rw [ho] at h2
      simp only at h2 ⊢
      rw [Bool.and_eq_true] at h2 ⊢
      rw [h1]
      exact ⟨h2.1, drL_sound t t' true m' dead h2.2⟩
  | .alt i e g t r, .nil, top, m, dead, h => by cases top <;> cases h
  | .alt i e g t r, .fl _ _, top, m, dead, h => by cases top <;> cases h
  | .alt i e g t r, .alt m' d' t' r', top, m, dead, h => by
    unfold drFromL at h
    rw [Bool.and_eq_true, Bool.and_eq_true] at h
    obtain ⟨⟨h1, hd⟩, h2⟩ := h
    have h1 : m ||| 2 ^ i = m' := Nat.eq_of_beq_eq_true h1
    have hd : (dead || !early P ops i) = d' := eq_of_beq hd
    unfold drFromM
    cases ho : ops[i]? with
    | none => rw [ho] at h2; cases h2
    | some o =>
      rw [ho] at h2
      simp only at h2 ⊢
      rw [Bool.and_eq_true, Bool.and_eq_true, Bool.and_eq_true] at h2 ⊢
      rw [h1, hd]
      exact ⟨⟨⟨h2.1.1.1, drL_sound t t' true m' d' h2.1.1.2⟩, h2.1.2⟩, drL_sound r r' false m dead h2.2⟩
theorem drOk_faster {P : Program} {ops : Array Oper} {sched : DT} (M : MT) (h1 : Region.noSelect ops = true) (h2 : drFromL P ops sched M true 0 false = true) (h3 : (sched.depth == ops.size) = true) : drOk P ops sched :=
  drOk_fast (by rw [h1, drL_sound sched M true 0 false h2, h3]; rfl)
end Go.Proofs.Ytpalkdmngckcoaa
