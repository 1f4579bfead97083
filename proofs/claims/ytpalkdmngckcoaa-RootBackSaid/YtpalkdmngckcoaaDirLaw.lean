/- Trees that may be: plain functions. No program in this text. -/
import Derived.Test.YtpalkdmngckcoaaData
import Derived.Test.YtpalkdmngckcoaaPathLaw
namespace Go.Proofs.Ytpalkdmngckcoaa
open Go
theorem getD_at {α : Type} [Inhabited α] {l : List α} {i : Nat} (h : i < l.length) : l.getD i default = l[i] := by
  rw [List.getD_eq_getElem?_getD, List.getElem?_eq_getElem h]; rfl
theorem getD_at0 {l : List Int} {i : Nat} (h : i < l.length) : l.getD i 0 = l[i] := by
  rw [List.getD_eq_getElem?_getD, List.getElem?_eq_getElem h]; rfl
def soleE (x : Ent) : Bool := mayB x.name && decide (1 ≤ x.node) && decide (x.node < 12)
def okE (l : List Ent) (i : Nat) : Bool := soleE (l.getD i default) && (decide (i = 0) || sLess (l.getD (i - 1) default).name (l.getD i default).name)
/-- May a directory's entries be? -/
def mayL (l : List Ent) : Bool := (List.range l.length).all (okE l) && decide (l.length ≤ 10)
def within (n m : Int) : Bool := decide (0 ≤ n) && decide (n ≤ m)
def okS (size : Int) (l : List Int) (i : Nat) : Bool := within (l.getD i 0) 1099511627776 && !(decide (size ≤ i * 16) && !decide (l.getD i 0 = 0))
def fileB (n : Nod) : Bool := within n.links 120 && within n.size 80 && decide (n.seqs.length = 5) && decide (n.ents.length = 0) && (List.range n.seqs.length).all (okS n.size n.seqs)
/-- May a node be? -/
def mayN (n : Nod) : Bool :=
  if n.kind = 0 then decide (n.links = 0) && decide (n.size = 0) && decide (n.seqs.length = 0) && decide (n.ents.length = 0)
  else if n.kind = 1 then fileB n
  else if n.kind = 2 then decide (n.links = 1) && decide (n.size = 0) && decide (n.seqs.length = 0) && mayL n.ents
  else false
/-- How many entries name each node. -/
def cnt (n : Nat) (es : List Ent) : List Int := (List.range n).map fun (j : Nat) => ((es.countP (fun (x : Ent) => decide (x.node = (j : Int))) : Nat) : Int)
def allE (t : Tre) : List Ent := t.flatMap Nod.ents
/-- Which nodes one comes to. -/
inductive Reach (t : Tre) (a : Nat) : Nat → Prop where
  | refl : Reach t a a
  | step {i : Nat} {x : Ent} (h : Reach t a i) (hx : x ∈ (t.getD i default).ents) : Reach t a x.node.toNat
open Classical in
noncomputable def metB (t : Tre) (a j : Nat) : Bool := decide (Reach t a j)
theorem metB_iff {t : Tre} {a j : Nat} : metB t a j = true ↔ Reach t a j := by simp [metB]
def hangB (n : Nod) (i named : Int) (met : Bool) : Bool :=
  if n.kind = 2 then met && (decide (i = 0) || decide (named = 1)) else if n.kind = 1 then decide (n.links = named) else decide (named = 0)
/-- Does no writing stand twice? -/
def apartL (l : List Int) : Bool := decide ((l.filter fun s => decide (s ≠ 0)).Nodup)
def allS (t : Tre) : List Int := t.flatMap Nod.seqs
/-- May a tree be? -/
noncomputable def mayT (t : Tre) : Bool :=
  decide (t.length = 12) && t.all mayN && decide ((t.getD 0 default).kind = 2) && (List.range 12).all (fun i => hangB (t.getD i default) i ((cnt 12 (allE t)).getD i 0) (metB t 0 i)) && apartL (allS t)
theorem mayL_len {l : List Ent} (h : mayL l = true) : l.length ≤ 10 := by
  unfold mayL at h; simp at h; exact h.2
theorem mayL_node {l : List Ent} (h : mayL l = true) {x : Ent} (hx : x ∈ l) : 1 ≤ x.node ∧ x.node < 12 ∧ mayB x.name = true := by
  unfold mayL at h
  simp only [Bool.and_eq_true, List.all_eq_true, List.mem_range] at h
  obtain ⟨i, hi, rfl⟩ := List.getElem_of_mem hx
  have := h.1 i hi
  unfold okE soleE at this
  rw [List.getD_eq_getElem?_getD, List.getElem?_eq_getElem hi] at this
  simp at this
  exact ⟨this.1.1.2, this.1.2, this.1.1.1⟩
theorem mayN_ents {n : Nod} (h : mayN n = true) : mayL n.ents = true := by
  have nil : n.ents.length = 0 → mayL n.ents = true := fun h => by
    rw [List.length_eq_zero_iff] at h
    rw [h]; rfl
  unfold mayN at h
  split at h
  · simp at h; exact nil (by simp [h])
  · split at h
    · unfold fileB at h; simp at h; exact nil (by simp [h])
    · split at h
      · simp at h; exact h.2
      · cases h
end Go.Proofs.Ytpalkdmngckcoaa
