/- Rules for what the executor asks. -/
import Derived.Test.YtpalkdmngckcoaaSoundC
namespace Go.Proofs.Ytpalkdmngckcoaa
open Go
/-- Rounds by an invariant and a measure. -/
theorem loopP_inv {ks : List K} {F : CurF (CurP ks → Prop) ks} {s : Ty ks} {V : View} (I : Ty ks → View → Prop) (m : Ty ks → View → Nat) (h0 : I s V)
    (step : ∀ s V, I s V → uncF ks F s V (cur ks fun s' V' => I s' V' ∧ m s' V' < m s V)) : loopP ks F s V := by
  intro Q hQ
  have key : ∀ n s V, m s V = n → I s V → Q s V := by
    intro n
    induction n using Nat.strongRecOn with
    | _ n ih =>
      intro s V hm hi
      exact hQ s V ⟨_, fun s' V' h => ih _ (by rw [← hm]; exact h.2) s' V' rfl h.1, step s V hi⟩
  exact key _ s V rfl h0
/-- One number goes round. -/
theorem loop1 {k : K} {F : k.ty → View → (k.ty → View → Prop) → Prop} {x : k.ty} {V : View} (I : k.ty → View → Prop) (m : k.ty → View → Nat) (h0 : I x V)
    (step : ∀ x V, I x V → F x V fun x' V' => I x' V' ∧ m x' V' < m x V) : loopP [k] F (x, ()) V :=
  loopP_inv (fun s V => I s.1 V) (fun s V => m s.1 V) h0 fun s V h => step s.1 V h
theorem loop0 {F : View → (View → Prop) → Prop} {V : View} (I : View → Prop) (m : View → Nat) (h0 : I V)
    (step : ∀ V, I V → F V fun V' => I V' ∧ m V' < m V) : loopP [] F () V :=
  loopP_inv (fun _ V => I V) (fun _ V => m V) h0 fun _ V h => step V h
theorem loop2 {k l : K} {F : k.ty → l.ty → View → (k.ty → l.ty → View → Prop) → Prop} {x : k.ty} {y : l.ty} {V : View} (I : k.ty → l.ty → View → Prop) (m : k.ty → l.ty → View → Nat) (h0 : I x y V)
    (step : ∀ x y V, I x y V → F x y V fun x' y' V' => I x' y' V' ∧ m x' y' V' < m x y V) : loopP [k, l] F (x, y, ()) V :=
  loopP_inv (fun s V => I s.1 s.2.1 V) (fun s V => m s.1 s.2.1 V) h0 fun s V h => step s.1 s.2.1 V h
theorem loop3 {k l n : K} {F : k.ty → l.ty → n.ty → View → (k.ty → l.ty → n.ty → View → Prop) → Prop} {x : k.ty} {y : l.ty} {z : n.ty} {V : View} (I : k.ty → l.ty → n.ty → View → Prop) (m : k.ty → l.ty → n.ty → View → Nat) (h0 : I x y z V)
    (step : ∀ x y z V, I x y z V → F x y z V fun x' y' z' V' => I x' y' z' V' ∧ m x' y' z' V' < m x y z V) : loopP [k, l, n] F (x, y, z, ()) V :=
  loopP_inv (fun s V => I s.1 s.2.1 s.2.2.1 V) (fun s V => m s.1 s.2.1 s.2.2.1 V) h0 fun s V h => step s.1 s.2.1 s.2.2.1 V h
@[simp] theorem br_true (A B : Prop) : br true A B = A := rfl
@[simp] theorem br_false (A B : Prop) : br false A B = B := rfl
theorem br_intro {g : Bool} {A B : Prop} (h1 : g = true → A) (h2 : g = false → B) : br g A B := by
  cases g
  · exact h2 rfl
  · exact h1 rfl
/-- Ways meet with what J says. -/
theorem joinP_cut {ks : List K} {body : CurP ks → Prop} {k : CurP ks} (J : Ty ks → View → Prop) (h : body (cur ks J)) (h2 : ∀ s V, J s V → unc ks k s V) : joinP ks body k := ⟨J, h, h2⟩
/-- At the end: a call of a view's function is a call in its world. -/
theorem CallV.at {P : Program} {f : FuncId} {args : Array Value} {V : View} {K : Value → View → Prop} (h : CallV P f args V K) {w : World} (hw : V.In w) :
    Calls P f args w fun e w' => ∃ r V', e = .returned r ∧ V'.In w' ∧ Fr V w V' w' ∧ K r V' := h.2 w hw
end Go.Proofs.Ytpalkdmngckcoaa
