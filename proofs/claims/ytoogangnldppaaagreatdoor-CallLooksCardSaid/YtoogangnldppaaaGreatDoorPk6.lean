/- Texts joined: KeepLaw, Ref6Ok, Ref7Ok, Ref8Ok, Ref9Ok, RefAOk, RefBOk, RefCOk, RmOk, Rm2Ok, Rm3Ok, Rm4Ok, Rm5Ok, Rm6Ok, Awk22Ok, Plays22Ok, LooksOk, In, CalIn. -/
import Derived.Test.YtoogangnldppaaaGreatDoorPk5
import Derived.Test.YtoogangnldppaaaGreatDoorPk4
import Derived.Test.YtoogangnldppaaaGreatDoorPk1
set_option linter.unusedVariables false
/- What calls on names leave: places of Seqs, files that are held. Plain laws. -/
namespace Go.Proofs.YtoogangnldppaaaGreatDoor
open Go
/-- As a file it is the same. -/
def Same1 (a b : Nod) : Prop := a.kind = 1 ∧ a.size = b.size ∧ a.seqs = b.seqs
structure Keep (held : Nat → Prop) (u t : Tre) : Prop where
  len : u.length = t.length
  pos : ∀ i p, (u.getD i default).seqs.getD p 0 = 0 ∨ (u.getD i default).seqs.getD p 0 = (t.getD i default).seqs.getD p 0
  same : ∀ i, held i → kindT t i = 1 → Same1 (u.getD i default) (t.getD i default)
theorem Keep.refl (held : Nat → Prop) (t : Tre) : Keep held t t := ⟨rfl, fun _ _ => .inr rfl, fun _ _ h => ⟨h, rfl, rfl⟩⟩
theorem Keep.trans {held : Nat → Prop} {a b c : Tre} (h : Keep held a b) (k : Keep held b c) : Keep held a c := by
  refine ⟨h.len.trans k.len, fun i p => ?_, fun i hi hk => ?_⟩
  · rcases h.pos i p with e | e
    · exact .inl e
    · rcases k.pos i p with e' | e'
      · exact .inl (e.trans e')
      · exact .inr (e.trans e')
  · obtain ⟨a1, a2, a3⟩ := k.same i hi hk
    obtain ⟨b1, b2, b3⟩ := h.same i hi a1
    exact ⟨b1, b2.trans a2, b3.trans a3⟩
theorem getD_set' {t : Tre} {k j : Nat} {n : Nod} : (t.set k n).getD j default = if j = k ∧ k < t.length then n else t.getD j default := by
  by_cases hk : k < t.length
  · rw [getD_set hk]
    by_cases e : j = k
    · rw [if_pos e, if_pos ⟨e, hk⟩]
    · rw [if_neg e, if_neg (fun h => e h.1)]
  · rw [List.set_eq_of_length_le (by omega), if_neg (fun h => hk h.2)]
theorem Keep.set {held : Nat → Prop} {t : Tre} {k : Nat} {n : Nod} (h1 : ∀ p, n.seqs.getD p 0 = 0 ∨ n.seqs.getD p 0 = (t.getD k default).seqs.getD p 0) (h2 : held k → kindT t k = 1 → Same1 n (t.getD k default)) : Keep held (t.set k n) t := by
  refine ⟨by simp, fun i p => ?_, fun i hi hk => ?_⟩
  · rw [getD_set']
    split
    · rename_i e; rw [e.1]; exact h1 p
    · exact .inr rfl
  · rw [getD_set']
    split
    · rename_i e; rw [e.1] at hi hk ⊢; exact h2 hi hk
    · exact ⟨hk, rfl, rfl⟩
section
variable {held : Nat → Prop}
theorem keep_ent (t : Tre) (d : Nat) (l : List Ent) : Keep held (entT t d l) t := Keep.set (fun _ => .inr rfl) fun _ h => ⟨h, rfl, rfl⟩
theorem kind_ent (t : Tre) (d : Nat) (l : List Ent) (i : Nat) : kindT (entT t d l) i = kindT t i := by
  unfold kindT entT
  rw [getD_set']
  split
  · rename_i e; rw [e.1]
  · rfl
theorem keep_zero {t : Tre} {k : Nat} (h : ¬ (held k ∧ kindT t k = 1)) : Keep held (t.set k Nod.zero) t := Keep.set (fun p => .inl (by simp [Nod.zero])) fun h1 h2 => absurd ⟨h1, h2⟩ h
theorem keep_empty {t : Tre} {k : Nat} (x : Int) (h : kindT t k = 0) : Keep held (t.set k (emptyN x)) t := Keep.set (fun p => .inl (by
    unfold emptyN
    split
    · match p with
      | 0 => rfl
      | 1 => rfl
      | 2 => rfl
      | 3 => rfl
      | 4 => rfl
      | p + 5 => rfl
    · split
      · simp
      · simp [Nod.zero])) fun _ h2 => by rw [h] at h2; cases h2
theorem keep_less {t : Tre} {k : Nat} {hl : List Bool} (h : held k → heldB hl k = true) : Keep held (lessT t k hl) t := by
  unfold lessT
  split
  · exact Keep.set (fun _ => .inr rfl) fun _ h => ⟨h, rfl, rfl⟩
  · rename_i hc
    exact keep_zero fun ⟨h1, h2⟩ => hc ⟨h2, .inr (h h1)⟩
theorem makes_keep {t u : Tre} {p : ByteArray} {k : Int} (h : makesT t p k = .ok u) : Keep held u t := by
  unfold makesT at h
  split at h
  · cases h
  · rename_i d s hp
    obtain ⟨ld, P⟩ := par_of hp
    split at h
    · cases h
    · split at h
      · cases h
      · split at h
        · cases h
        · rename_i hf _
          cases h
          rcases free_spec P.may with h1 | ⟨h1, h2, h3⟩
          · omega
          · exact (keep_empty k (by rw [kind_ent]; exact h3)).trans (keep_ent _ _ _)
theorem unlink_keep {t u : Tre} {p : ByteArray} {hl : List Bool} (hh : ∀ k, held k → heldB hl k = true) (h : unlinkT t p hl = .ok u) : Keep held u t := by
  unfold unlinkT at h
  split at h
  · cases h
  · split at h
    · cases h
    · split at h
      · cases h
      · cases h
        exact (keep_less (hh _)).trans (keep_ent _ _ _)
theorem rmdir_keep {t u : Tre} {p : ByteArray} (h : rmdirT t p = .ok u) : Keep held u t := by
  unfold rmdirT at h
  split at h
  · cases h
  · split at h
    · cases h
    · split at h
      · cases h
      · split at h
        · cases h
        · rename_i hk _
          cases h
          exact (keep_zero (by rw [kind_ent]; rintro ⟨_, h⟩; omega)).trans (keep_ent _ _ _)
theorem link_keep {t u : Tre} {p q : ByteArray} (h : linkT t p q = .ok u) : Keep held u t := by
  unfold linkT at h
  split at h
  · cases h
  · split at h
    · cases h
    · split at h
      · cases h
      · split at h
        · cases h
        · split at h
          · cases h
          · rename_i i _ _ _ d s _ _ _
            cases h
            have e1 : ((entT t d (insE (entsT t d) ⟨s, (i : Int)⟩)).getD i default).seqs = (t.getD i default).seqs ∧ ((entT t d (insE (entsT t d) ⟨s, (i : Int)⟩)).getD i default).size = (t.getD i default).size := by
              unfold entT
              rw [getD_set']
              split
              · rename_i e; rw [e.1]; exact ⟨rfl, rfl⟩
              · exact ⟨rfl, rfl⟩
            refine (Keep.set (fun p => .inr (by rw [e1.1])) fun _ h => ⟨?_, by rw [e1.2], by rw [e1.1]⟩).trans (keep_ent _ _ _)
            rw [kind_ent] at h; exact h
theorem move_keep {t : Tre} {d f i : Nat} {s r : ByteArray} {k : Int} {hl : List Bool} (hh : ∀ k, held k → heldB hl k = true) : Keep held (moveT t d s i f r k hl) t := by
  unfold moveT
  split
  · exact (keep_less (hh _)).trans ((keep_ent _ _ _).trans (keep_ent _ _ _))
  · exact keep_ent _ _ _
theorem rename_keep {t u : Tre} {p q : ByteArray} {hl : List Bool} (hh : ∀ k, held k → heldB hl k = true) (h : renameT t p q hl = .ok u) : Keep held u t := by
  unfold renameT at h
  split at h
  · cases h
  · split at h
    · cases h
    · split at h
      · cases h
      · split at h
        · cases h; exact Keep.refl _ t
        · split at h
          · cases h
          · split at h
            · cases h
            · split at h
              · cases h
              · cases h
                exact (keep_ent _ _ _).trans (move_keep hh)
theorem drop_keep {t u : Tre} {i : Int} (hh : ∀ k : Nat, held k → (k : Int) ≠ i) (h : dropT t i = .ok u) : Keep held u t := by
  unfold dropT at h
  split at h
  · split at h
    · rename_i hc
      cases h
      exact keep_zero fun ⟨h1, _⟩ => hh _ h1 (by omega)
    · cases h
  · cases h
end
theorem heldB_iff {h : List Int} (ho : offH h = false) {k : Nat} (hk : k < 12) : heldB (heldH h) k = decide ((k : Int) ∈ h) := by
  unfold heldB heldH
  rw [if_neg (by rw [ho]; decide), List.getD_eq_getElem?_getD, List.getElem?_eq_getElem (by simpa using hk)]
  simp
/-- A node that some handle has. -/
def HeldN (m : PMod) (k : Nat) : Prop := (k : Int) ∈ m.h
/-- A model that may be, and whose handles are files'. -/
structure OkH (m : PMod) : Prop extends OkP m where
  file : ∀ k, HeldN m k → kindT m.t k = 1
theorem OkH.lt {m : PMod} (h : OkH m) {k : Nat} (hk : HeldN m k) : k < 12 := by
  have := offH_mem h.hands hk; omega
theorem OkH.heldB {m : PMod} (h : OkH m) {k : Nat} (hk : HeldN m k) : heldB (heldH m.h) k = true := by
  rw [heldB_iff h.hands (h.lt hk)]; exact decide_eq_true hk
theorem named_keep {m : PMod} {c : Cal} {u : Tre} (hO : OkH m) (h : namedP m c = .ok u) : Keep (HeldN m) u m.t := by
  have hh : ∀ k, HeldN m k → Go.Proofs.YtoogangnldppaaaGreatDoor.heldB (heldH m.h) k = true := fun k hk => hO.heldB hk
  unfold namedP at h
  repeat' split at h
  · exact makes_keep h
  · exact makes_keep h
  · exact unlink_keep hh h
  · exact rmdir_keep h
  · exact rename_keep hh h
  · exact link_keep h
/-- What is found, and is no directory, is a file. -/
theorem find_kind {t : Tre} {p : ByteArray} {i : Nat} (h : findT t p = .ok i) : kindT t i = 1 ∨ kindT t i = 2 := by
  have hF := mayF (find_may h)
  by_cases hi : i = 0
  · subst hi; exact .inr hF.top
  · obtain ⟨ld, d, s, P, ha⟩ := find_par h hi
    obtain ⟨e, he, _, hn⟩ := atI_mem (l := entsT t d) (s := s) (by omega)
    have hk := (hF.ent he).2.2.2.2.2
    rw [hn, ha] at hk
    have hk : kindT t i ≠ 0 := hk
    have := kind_of (hF.at (find_lt h))
    unfold kindT at hk ⊢
    omega
/-- What is done to a file does not touch others. -/
theorem doneU_kind (k : Nat) (t : Tre) (l : List Tod) (ss : List Int) (hk : k < t.length) (j : Nat) : kindT (doneU k t l ss) j = kindT t j := by
  by_cases e : j = k
  · subst e
    obtain ⟨q, _, h2⟩ := doneU_at j t l ss hk
    unfold kindT; rw [h2]
  · unfold kindT; rw [doneU_ne k e]
theorem set_kind {t : Tre} {k : Nat} {n : Nod} (h : n.kind = (t.getD k default).kind) (j : Nat) : kindT (t.set k n) j = kindT t j := by
  unfold kindT
  rw [getD_set']
  split
  · rename_i e; rw [e.1]; exact h
  · rfl
theorem write_kind {t u : Tre} {d i a : Int} {b : List UInt8} {l : List Tod} (h : writeT t d i a b = .ok (u, l)) (j : Nat) : kindT u j = kindT t j := by
  unfold writeT at h
  split at h
  · cases h
  split at h
  · cases h; rfl
  split at h
  · cases h
  split at h
  · cases h
  · cases h; exact set_kind (by rfl) j
theorem trunc_kind {t u : Tre} {i z : Int} {l : List Tod} (h : truncT t i z = .ok (u, l)) (j : Nat) : kindT u j = kindT t j := by
  unfold truncT at h
  split at h
  · cases h
  split at h
  · cases h
  · cases h; exact set_kind (by rfl) j
/-- Handles stay files'. -/
theorem plans_file {m : PMod} {c : Cal} (hO : OkH m) : ∀ k : Nat, (k : Int) ∈ (plansP m c).h → kindT (plansP m c).t k = 1 := by
  unfold plansP
  cases hd : deedP m c with
  | error e => exact hO.file
  | ok d =>
    show ∀ k : Nat, (k : Int) ∈ d.h → kindT d.t k = 1
    unfold deedP at hd
    split at hd
    · cases hn : namedP m c with
      | error e => rw [hn] at hd; cases hd
      | ok t =>
        rw [hn] at hd; cases hd
        exact fun k hk => ((named_keep hO hn).same k hk (hO.file k hk)).1
    split at hd
    · unfold foundP at hd
      split at hd
      · cases hd
      rename_i i hf
      split at hd
      · cases hd; exact hO.file
      split at hd
      · cases hd
      split at hd
      · cases hd; exact hO.file
      split at hd
      · cases hd
      rename_i hk2
      split at hd
      · cases hd
      · rename_i ho
        cases hd
        intro k hk
        have hk : (k : Int) ∈ _ := hk
        unfold openH at ho
        split at ho
        · cases ho
        split at ho
        · cases ho
        · cases ho
          rcases List.mem_or_eq_of_mem_set hk with h | h
          · exact hO.file k h
          · have e : k = i := by omega
            subst e
            rcases find_kind hf with h1 | h1
            · exact h1
            · exact absurd h1 hk2
    split at hd
    · unfold closesP at hd
      split at hd
      · cases hd
      · rename_i h i hc
        obtain ⟨ho0, _, hi12, ho, hl, _⟩ := close_facts hc
        have hsub : ∀ k : Nat, (k : Int) ∈ h → (k : Int) ∈ m.h := by
          intro k hk
          rw [hl] at hk
          rcases List.mem_or_eq_of_mem_set hk with h | h
          · exact h
          · omega
        split at hd
        · rename_i hcc
          cases hdr : dropT m.t i with
          | error e => rw [hdr] at hd; cases hd
          | ok t =>
            rw [hdr] at hd; cases hd
            intro k hk
            have hk : (k : Int) ∈ h := hk
            refine ((drop_keep (held := fun k => (k : Int) ∈ h) (fun j hj => ?_) hdr).same k hk (hO.file k (hsub k hk))).1
            intro e
            have hj := offH_mem ho hj
            have h1 := hcc.2
            rw [show i.toNat = j by omega, heldB_iff ho (by omega)] at h1
            rename_i hj0
            exact absurd (hj0 : (j : Int) ∈ h) (of_decide_eq_false h1)
        · cases hd; exact fun k hk => hO.file k (hsub k hk)
    split at hd
    · unfold heldP at hd
      split at hd
      · cases hd
      · rename_i i hi
        split at hd
        · cases hw : writeT m.t m.data i c.at_ c.data with
          | error e => rw [hw] at hd; cases hd
          | ok o => obtain ⟨u, l⟩ := o; rw [hw] at hd; cases hd; exact fun k hk => by rw [show kindT _ k = _ from write_kind hw k]; exact hO.file k hk
        split at hd
        · cases hw : truncT m.t i c.at_ with
          | error e => rw [hw] at hd; cases hd
          | ok o => obtain ⟨u, l⟩ := o; rw [hw] at hd; cases hd; exact fun k hk => by rw [show kindT _ k = _ from trunc_kind hw k]; exact hO.file k hk
        split at hd
        · cases hd
        · cases hd; exact hO.file
    split at hd
    · cases hd; exact hO.file
    split at hd
    · cases hd; exact hO.file
    · cases hd
theorem OkH.step {m : PMod} {c : Cal} (hO : OkH m) (hs : m.seq + 80 ≤ 1099511627776) : OkH (doP m c) := by
  obtain ⟨h1, _⟩ := hO.toOkP.step (c := c) hs
  refine ⟨h1, fun k hk => ?_⟩
  have hT := (plans_ok (c := c) hO.toOkP).1
  have h12 := (mayF hT.may).len
  show kindT (doneU _ _ _ _) k = 1
  rw [doneU_kind _ _ _ _ (by have := hT.k12; omega)]
  exact plans_file hO k hk
theorem OkH.new {d : Int} (h1 : 1 ≤ d) (h2 : d ≤ 60) : OkH (newP d) := by
  refine ⟨OkP.new h1 h2, fun k hk => ?_⟩
  have hk : (k : Int) ∈ newH := hk
  unfold newH at hk
  simp at hk
end Go.Proofs.YtoogangnldppaaaGreatDoor

/- Contracts of the reference's calls on names: paths, parents, entries. -/
namespace Go.Proofs.YtoogangnldppaaaGreatDoor
open Go
/-- How far a path is cut: the names so far; the rest is cut the same way. -/
structure CutI (r : List UInt8) (names : List ByteArray) (f i : Nat) : Prop where
  may : names.all mayB = true
  le : f ≤ i
  cut : (i ≤ r.length ∧ (splitS r).map ba = names ++ (splitS (r.drop f)).map ba ∧ 47 ∉ (r.drop f).take (i - f)) ∨ (i = r.length + 1 ∧ (splitS r).map ba = names)
end Go.Proofs.YtoogangnldppaaaGreatDoor

/- Contracts of the reference's calls on names: joined paths, parents, entries. -/
namespace Go.Proofs.YtoogangnldppaaaGreatDoor
open Go
end Go.Proofs.YtoogangnldppaaaGreatDoor

/- Contracts of the reference's calls on names: entries, and what is made. -/
namespace Go.Proofs.YtoogangnldppaaaGreatDoor
open Go
theorem OwnT.call {P : Program} {f : FuncId} {args : Array Value} {V0 V : View} {x : Sl} {t : Tre} {K : Value → View → Prop} (h : OwnT V0 V x t) (hc : CallV P f args (V.minus x) fun r U' => K r U' ∧ (V.minus x).Le U') :
    CallV P f args V fun r V' => ∃ U', K r U' ∧ U'.Le (V'.minus x) ∧ V.Le V' ∧ OwnT V0 V' x t := by
  obtain ⟨cs, hB, _, _⟩ := id h
  refine (CallV.besideG hB hc).mono ?_
  rintro r V' ⟨U', h1, _, h2, h3⟩
  exact ⟨U', h1, h2, h3, h.mono h3⟩
/-- Entries of one's own. -/
def OwnE (V0 V : View) (x : Sl) (l : List Ent) : Prop := ∃ cs, Buf V x 85 (Rep.sz Ent) cs ∧ repL (V.minus x) cs l ∧ V0.Le (V.minus x)
theorem OwnE.nil (V : View) : OwnE V V ⟨none, 0, 0⟩ [] := ⟨[], Buf.nil _ _ _, rfl, View.Le.refl _⟩
theorem OwnE.slR {V0 V : View} {x : Sl} {l : List Ent} (h : OwnE V0 V x l) : SlR V x l ∧ V0.Le V := by
  obtain ⟨cs, h1, h2, h3⟩ := h
  exact ⟨h1.slR h2 (View.minus_le _ _), h3.trans (View.minus_le _ _)⟩
theorem OwnE.row {V0 V : View} {x y : Sl} {l m : List Ent} {C : Sl → View → Prop} (h : OwnE V0 V x l) (hy : SlR V0 y m) (hlen : l.length + m.length ≤ 1000) (hC : ∀ s V', OwnE V0 V' s (l ++ m) → C s V') : apV V 85 2 24 [.string (ba []), .int .i64 0] x (.slice y.a y.n y.c) C := by
  obtain ⟨cs, h1, h2, h3⟩ := h
  exact appRow (α := Ent) rfl h1 h2 (hy.mono h3) h3 (by omega) (by omega) fun s V' cs' a b c => hC s V' ⟨cs', a, b, c⟩
theorem OwnE.one {V0 V : View} {x : Sl} {l : List Ent} {e : Ent} {r : Nat} {C : Sl → View → Prop} (h : OwnE V0 V x l) (hr : V.size ≤ r) (hs : e.name.size ≤ 9223372036854775807) (hi : inI .i64 e.node) (hlen : l.length ≤ 1000) (hC : ∀ s V', OwnE V0 V' s (l ++ [e]) → C s V') :
    apV (V.put r (.cells ⟨[.string e.name, .int .i64 e.node]⟩ 85 (0, 0))) 85 2 24 [.string (ba []), .int .i64 0] x (.slice (some ⟨r, 0, none⟩) 1 1) C := by
  obtain ⟨cs, h1, h2, h3⟩ := h
  have hn := h1.n_eq (α := Ent) h2
  exact app0 (α := Ent) (d := e) rfl h1 h2 ⟨rfl, hs, hi⟩ h3 hr rfl (by omega) (by omega) fun s V' cs' a b c => hC s V' ⟨cs', a, b, c⟩
end Go.Proofs.YtoogangnldppaaaGreatDoor

/- Contracts of the reference's calls on names: made, unlinked, removed, linked, dropped. -/
namespace Go.Proofs.YtoogangnldppaaaGreatDoor
open Go
end Go.Proofs.YtoogangnldppaaaGreatDoor

/- Contracts of the reference's calls on names: unlinked, removed, linked, dropped. -/
namespace Go.Proofs.YtoogangnldppaaaGreatDoor
open Go
end Go.Proofs.YtoogangnldppaaaGreatDoor

/- Contracts of the reference's calls on names: inside, renamed; TreeForms. -/
namespace Go.Proofs.YtoogangnldppaaaGreatDoor
open Go
end Go.Proofs.YtoogangnldppaaaGreatDoor

/- The contract of the reference's Rename. -/
namespace Go.Proofs.YtoogangnldppaaaGreatDoor
open Go
end Go.Proofs.YtoogangnldppaaaGreatDoor

/- Contracts of the reference's model: page, names, looks. -/
namespace Go.Proofs.YtoogangnldppaaaGreatDoor
open Go
structure RefC (V0 V : View) (q : Nat) (m : PMod) (s hs : Sl) (bs : List Value) (B : List (List UInt8)) : Prop where
  box : V.see q = some (.cells ⟨[.int .i64 m.data, .slice s.a s.n s.c, .slice hs.a hs.n hs.c, .int .i64 m.seq] ++ bs⟩ 56 (0, 0))
  tre : SlR V0 s m.t
  hands : SlR V0 hs m.h
  rows : repL V0 bs B
  len : B.length = 60
  page : ∀ i p, i < 12 → p < 5 → (m.t.getD i default).seqs.getD p 0 ≠ 0 → B.getD (i * 5 + p) [] = pgP m.P ((m.t.getD i default).seqs.getD p 0)
/-- The reference's model lies in a box of its own; it holds what the program's one holds. -/
structure RefR (V0 V : View) (q : Nat) (m : PMod) : Prop where
  le : V0.Le V
  nq : V0.see q = none
  ex : ∃ (s hs : Sl) (bs : List Value) (B : List (List UInt8)), RefC V0 V q m s hs bs B
theorem RefC.stp {B : Nat → Prop} {V0 V V0' V' : View} {q : Nat} {m : PMod} {s hs : Sl} {bs : List Value} {C : List (List UInt8)} (h : RefC V0 V q m s hs bs C) (k : Mv B V0 V V0' V') (h1 : ¬ B q) : RefC V0' V' q m s hs bs C :=
  ⟨k.rest _ _ h1 h.box, h.tre.mono k.base, h.hands.mono k.base, h.rows.mono k.base, h.len, h.page⟩
theorem RefC.grow {V0 V V0' V' : View} {q : Nat} {m : PMod} {s hs : Sl} {bs : List Value} {C : List (List UInt8)} (h : RefC V0 V q m s hs bs C) (k : V0.Le V0') (hV : V.Le V') : RefC V0' V' q m s hs bs C :=
  ⟨hV.see _ _ h.box, h.tre.mono k, h.hands.mono k, h.rows.mono k, h.len, h.page⟩
theorem RefR.stp {B : Nat → Prop} {V0 V V0' V' : View} {q : Nat} {m : PMod} (h : RefR V0 V q m) (k : Mv B V0 V V0' V') (h1 : ¬ B q) : RefR V0' V' q m := by
  obtain ⟨s, hs, bs, C, hc⟩ := h.ex
  exact ⟨k.sub, k.apart _ h.nq (by rw [hc.box]; simp), s, hs, bs, C, hc.stp k h1⟩
theorem doP_eq {m : PMod} {c : Cal} {d : Dee} (h : plansP m c = d) (hl : d.todo = []) : doP m c = ⟨m.data, d.t, d.h, m.P, m.seq⟩ ∧ writesP m c = !decide (d.t = m.t) := by
  unfold doP writesP
  rw [h, hl]
  refine ⟨?_, rfl⟩
  show (⟨m.data, d.t, d.h, m.P, m.seq + 0⟩ : PMod) = _
  rw [Int.add_zero]
theorem plansP_err {m : PMod} {c : Cal} {e : Int} (h : deedP m c = .error e) : plansP m c = ⟨m.t, m.h, [], Ans.e e⟩ := by unfold plansP; rw [h]
theorem plansP_of {m : PMod} {c : Cal} {d : Dee} (h : deedP m c = .ok d) : plansP m c = d := by unfold plansP; rw [h]
theorem doP_err {m : PMod} {c : Cal} {e : Int} (h : deedP m c = .error e) : doP m c = m ∧ writesP m c = false ∧ (plansP m c).a = Ans.e e := by
  have hp := plansP_err h
  obtain ⟨h1, h2⟩ := doP_eq hp rfl
  exact ⟨h1, by rw [h2]; simp, by rw [hp]⟩
section
variable {V0 V : View} {q : Nat} {m : PMod} {c : Cal} {y : Sl} {s hs : Sl} {bs : List Value} {B : List (List UInt8)}
theorem RefC.bsl (h : RefC V0 V q m s hs bs B) : bs.length = 60 := by
  have := h.rows.len
  rw [h.len] at this
  exact this
theorem RefC.tree {u : Tre} (h : RefC V0 V q m s hs bs B) (hle : V0.Le V) (hn : V0.see q = none) {x : Sl} (hx : SlR V0 x u) (hp : ∀ i p, (u.getD i default).seqs.getD p 0 = 0 ∨ (u.getD i default).seqs.getD p 0 = (m.t.getD i default).seqs.getD p 0) :
    canSet V ((⟨q, 0, none⟩ : Addr).add 1) 1 ∧ RefC V0 (V.sets ((⟨q, 0, none⟩ : Addr).add 1) [.slice x.a x.n x.c]) q ⟨m.data, u, m.h, m.P, m.seq⟩ x hs bs B ∧ Mv (fun i => i = q) V0 V V0 (V.sets ((⟨q, 0, none⟩ : Addr).add 1) [.slice x.a x.n x.c]) := by
  have hb := h.bsl
  rw [bxe h.box]
  refine ⟨bxc h.box 1 1 (by simp), ⟨View.see_put_same _ _ _, hx, h.hands, h.rows, h.len, fun i p hi hp5 hne => ?_⟩, Mv.put _ hle hn (.inl rfl)⟩
  rcases hp i p with e | e
  · exact absurd e hne
  · show B.getD _ [] = pgP m.P ((u.getD i default).seqs.getD p 0)
    rw [e]
    exact h.page i p hi hp5 (by rw [← e]; exact hne)
end
end Go.Proofs.YtoogangnldppaaaGreatDoor

/- Contracts of the reference's model: looks, todo. -/
namespace Go.Proofs.YtoogangnldppaaaGreatDoor
open Go
section
variable {V0 V : View} {q : Nat} {m : PMod} {c : Cal} {y : Sl} {s hs : Sl} {bs : List Value} {B : List (List UInt8)}
end
end Go.Proofs.YtoogangnldppaaaGreatDoor

/- Contracts of the reference's model: pages are written. -/
namespace Go.Proofs.YtoogangnldppaaaGreatDoor
open Go
section
variable {V0 V : View} {q : Nat} {m : PMod} {y x0 : Sl} {s hs : Sl} {bs : List Value} {B : List (List UInt8)} {u : Tre} {l : List Tod}
end
end Go.Proofs.YtoogangnldppaaaGreatDoor

/- Contracts of the reference's model: calls on bytes; a call. -/
namespace Go.Proofs.YtoogangnldppaaaGreatDoor
open Go
section
variable {V0 V : View} {q : Nat} {m : PMod} {c : Cal} {y : Sl} {s hs : Sl} {bs : List Value} {B : List (List UInt8)}
end
end Go.Proofs.YtoogangnldppaaaGreatDoor

/- Contracts of the reference's model: a call; begun anew; a file's bytes; a new one; what is compared. -/
namespace Go.Proofs.YtoogangnldppaaaGreatDoor
open Go
/-! ### bytes in a row -/
/-! ### begun anew -/
section
variable {V0 V : View} {q : Nat} {m : PMod} {c : Cal} {y : Sl} {s hs : Sl} {bs : List Value} {B : List (List UInt8)}
end
end Go.Proofs.YtoogangnldppaaaGreatDoor

/- Contracts of the reference's model: a call; a new one. -/
namespace Go.Proofs.YtoogangnldppaaaGreatDoor
open Go
section
variable {V0 V : View} {q : Nat} {m : PMod} {c : Cal} {y : Sl}
end
end Go.Proofs.YtoogangnldppaaaGreatDoor

/- The laws of stage 22: how heavy calls are; a model that every program must know. -/
namespace Go.Proofs.YtoogangnldppaaaGreatDoor
open Go
theorem heavy22_ok {s : Sl} {l : List Cal} {V : View} (h : SlR V s l) : CallV Tryz.prog 11 ⟨[.slice s.a s.n s.c]⟩ V fun r V' => ∃ x : Int, r = .int .i64 x ∧ 0 ≤ x ∧ x ≤ 151 ∧ (x = 0 → l.length ≤ 150 ∧ ∀ c ∈ l, c.data.length ≤ 300) ∧ V' = V := by
  refine f11_x ?_
  unfold f11_n
  have hn := h.n
  refine loop1 (k := .int .i64) (fun (j : Int) V' => V' = V ∧ ∃ i : Nat, j = i ∧ i ≤ l.length ∧ i ≤ 150 ∧ ∀ k, k < i → (l.getD k default).data.length ≤ 300) (fun (j : Int) _ => l.length - j.toNat) ⟨rfl, 0, rfl, by omega, by omega, fun k hk => by omega⟩ ?_
  rintro (j : Int) V' ⟨rfl, i, rfl, hi, h150, hall⟩
  have hw : IntKind.wrap .i64 ((i : Int) + 1) = (i : Int) + 1 := wrap_of_in (inI64 (by omega) (by omega))
  refine br_intro (fun hlt => ?_) (fun hge => ?_)
  · have hlt : i < l.length := by have := of_decide_eq_true hlt; omega
    obtain ⟨ad, y, ha, hc, hC⟩ := h.calN hlt
    have hyn := hC.data.n
    refine ⟨by omega, by omega, ad, ha, _, _, _, _, _, _, y, hc, fun _ => ?_⟩
    refine joinP_cut (fun q V1 => (q.1 = false → i < 150 ∧ (l.getD i default).data.length ≤ 300) ∧ V1 = V') (br_intro (fun hb => ⟨fun h => (by cases h), rfl⟩) (fun hb => ⟨fun hf => ?_, rfl⟩)) ?_
    · have hb := of_decide_eq_false hb
      have hf : (bif decide ((300 : Int) < IntKind.wrap .i64 (((l.getD i default).path.size : Int) + ((l.getD i default).to_.size : Int))) then true else decide ((300 : Int) < (y.n : Int))) = false := hf
      refine ⟨by omega, ?_⟩
      cases hd : decide ((300 : Int) < IntKind.wrap .i64 (((l.getD i default).path.size : Int) + ((l.getD i default).to_.size : Int))) with
      | true => rw [hd] at hf; cases hf
      | false =>
        rw [hd] at hf
        have := of_decide_eq_false hf
        omega
    rintro ⟨q, ⟨⟩⟩ V1 ⟨h1, hV⟩
    have hV : V1 = V' := hV
    subst hV
    dsimp only [unc]
    rw [hw]
    refine br_intro (fun hq => ⟨_, rfl, by omega, by omega, fun h0 => by omega, rfl⟩) (fun hq => ?_)
    obtain ⟨h2, h3⟩ := h1 hq
    refine ⟨⟨rfl, i + 1, by omega, by omega, by omega, fun k hk => ?_⟩, by omega⟩
    by_cases e : k = i
    · subst e; exact h3
    · exact hall k (by omega)
  · have hge : i = l.length := by have := of_decide_eq_false hge; omega
    subst hge
    refine ⟨0, rfl, by omega, by omega, fun _ => ⟨by omega, fun c hc => ?_⟩, rfl⟩
    obtain ⟨k, hk, rfl⟩ := List.getElem_of_mem hc
    have := hall k hk
    rw [getD_at hk] at this
    exact this
/-! ### the known model -/
def pA : ByteArray := ba [47, 97]
def TA : Tre := (entT firstT 0 [⟨ba [97], 1⟩]).set 1 (emptyN 1)
def cC : Cal := ⟨1, pA, ba [], 0, 0, 0, []⟩
def cO : Cal := ⟨9, pA, ba [], 0, 0, 0, []⟩
def cW : Cal := ⟨12, ba [], ba [], 0, 2, 0, [120, 121]⟩
def cR : Cal := ⟨11, ba [], ba [], 0, 0, 9, []⟩
def cS : Cal := ⟨14, ba [], ba [], 0, 0, 0, []⟩
def cX : Cal := ⟨99, ba [], ba [], 0, 0, 0, []⟩
theorem parA : Par firstT pA [] 0 (ba [97]) := ⟨mayT_first, by decide, rfl, by decide⟩
theorem ta_eq : makesT firstT pA 1 = .ok TA := by
  unfold makesT
  rw [parA.eq]
  have h1 : atI (entsT firstT 0) (ba [97]) = -1 := by decide
  have h2 : (entsT firstT 0).length = 0 := by decide
  show (if 0 ≤ atI (entsT firstT 0) (ba [97]) then _ else _) = _
  rw [h1, if_neg (by decide), free_first, if_neg (by decide), h2, if_neg (by decide)]
  rfl
theorem plan1 : plansP (newP 5) cC = ⟨TA, newH, [], Ans.e 0⟩ := by
  refine plansP_of ?_
  unfold deedP
  rw [if_pos (by decide)]
  have : namedP (newP 5) cC = .ok TA := by
    unfold namedP
    rw [if_pos (by decide)]
    exact ta_eq
  rw [this]; rfl
def m1 : PMod := ⟨5, TA, newH, fun _ => none, 0⟩
theorem do1 : doP (newP 5) cC = m1 := (doP_eq plan1 rfl).1
theorem ok1 : OkH m1 := by rw [← do1]; exact (OkH.new (by decide) (by decide)).step (by decide)
def h1A : List Int := [1, -1, -1, -1]
theorem findA : findT TA pA = .ok 1 := by
  have P : Par TA pA [] 0 (ba [97]) := ⟨ok1.may, by decide, rfl, by decide⟩
  exact P.found (by decide)
theorem plan2 : plansP m1 cO = ⟨TA, h1A, [], Ans.e 0⟩ := by
  refine plansP_of ?_
  unfold deedP
  rw [if_neg (by decide), if_pos (by decide)]
  unfold foundP
  rw [show m1.t = TA from rfl, show cO.path = pA from rfl, findA]
  show (if cO.kind = 7 then _ else _) = _
  rw [if_neg (by decide), if_neg (by decide), if_neg (by decide), if_neg (by decide)]
  have : openH m1.h ((1 : Nat) : Int) = .ok (h1A, 0) := rfl
  rw [this]; rfl
def m2 : PMod := ⟨5, TA, h1A, fun _ => none, 0⟩
theorem do2 : doP m1 cO = m2 := (doP_eq plan2 rfl).1
theorem ok2 : OkH m2 := by rw [← do2]; exact ok1.step (by decide)
def tdA : Tod := ⟨1, 0, 0, 16, 2, [120, 121]⟩
def TB : Tre := TA.set 1 { TA.getD 1 default with size := 4 }
theorem fileA {t : Tre} (h : mayT t = true) (hl : t.length = 12) (hk : kindT t 1 = 1) : fileQ t 1 = true := by
  unfold fileQ
  rw [h, Bool.true_and]
  exact decide_eq_true ⟨by decide, by omega, hk⟩
theorem writeA : writeT TA 5 1 2 [120, 121] = .ok (TB, [tdA]) := by
  have hf : fileQ TA 1 = true := fileA ok1.may (by decide) (by decide)
  unfold writeT
  rw [hf, if_neg (by decide), if_neg (by decide), if_neg (by decide)]
  have h1 : usedT TA = 0 := by decide
  have h2 : moreN (TA.getD 1 default) 2 2 = 1 := by decide
  rw [h1]
  show (if (5 : Int) < ((0 : Nat) : Int) + ((moreN (TA.getD 1 default) 2 2 : Nat) : Int) then _ else _) = _
  rw [h2, if_neg (by decide)]
  rfl
theorem plan3 : plansP m2 cW = ⟨TB, h1A, [tdA], ⟨0, 0, 2, 0, 0, [], []⟩⟩ := by
  refine plansP_of ?_
  unfold deedP
  rw [if_neg (by decide), if_neg (by decide), if_neg (by decide), if_pos (by decide)]
  unfold heldP
  have : ofH m2.h cW.hand = .ok 1 := rfl
  rw [this]
  show (if cW.kind = 12 then _ else _) = _
  rw [if_pos (by decide), show writeT m2.t m2.data 1 cW.at_ cW.data = .ok (TB, [tdA]) from writeA]
  rfl
def TC : Tre := TB.set 1 { TB.getD 1 default with seqs := [1, 0, 0, 0, 0] }
def PC : Int → Option (List UInt8) := putsP (fun _ => none) 0 [tdA]
def m3 : PMod := ⟨5, TC, h1A, PC, 1⟩
theorem do3 : doP m2 cW = m3 := by
  unfold doP
  rw [plan3]
  rfl
theorem ok3 : OkH m3 := by rw [← do3]; exact ok2.step (by decide)
theorem plan4 : plansP m3 cR = ⟨TC, h1A, [], ⟨0, 0, 4, 0, 0, [0, 0, 120, 121], []⟩⟩ := by
  refine plansP_of ?_
  unfold deedP
  rw [if_neg (by decide), if_neg (by decide), if_neg (by decide), if_pos (by decide)]
  unfold heldP
  have : ofH m3.h cR.hand = .ok 1 := rfl
  rw [this]
  show (if cR.kind = 12 then _ else _) = _
  rw [if_neg (by decide), if_neg (by decide)]
  have hr : readI m3.t 1 cR.at_ cR.len = .ok [⟨0, 0, 4⟩] := by
    have hf : fileQ m3.t 1 = true := fileA ok3.may (by decide) (by decide)
    unfold readI
    rw [if_neg (by rw [hf]; decide)]
    rfl
  rw [hr]
  rfl
def m4 : PMod := m3
theorem do4 : doP m3 cR = m3 := (doP_eq plan4 rfl).1
theorem plan5 : writesP m3 cS = false := by
  have : plansP m3 cS = ⟨TC, h1A, [], Ans.e 0⟩ := by
    refine plansP_of ?_
    unfold deedP
    rw [if_neg (by decide), if_neg (by decide), if_neg (by decide), if_neg (by decide), if_pos (by decide)]
    rfl
  unfold writesP
  rw [this]
  show (false || !decide (TC = TC)) = false
  simp
theorem plan6 : (plansP m3 cX).a = Ans.e 1 := by
  refine (doP_err ?_).2.2
  unfold deedP
  rw [if_neg (by decide), if_neg (by decide), if_neg (by decide), if_neg (by decide), if_neg (by decide), if_neg (by decide)]
theorem calR_of {W : View} {c : Cal} (h1 : inI .i64 c.kind) (h2 : c.path.size ≤ 100) (h3 : c.to_.size ≤ 100) (h4 : inI .i64 c.hand) (h5 : inI .i64 c.at_) (h6 : inI .i64 c.len) (h7 : c.data = []) : CalR W ⟨none, 0, 0⟩ c :=
  ⟨h1, by omega, by omega, h4, h5, h6, by rw [h7]; exact SlR.nil _ _ _⟩
theorem awake22_ok {V : View} (hg : Glo V) : CallV Tryz.prog 12 ⟨[]⟩ V fun r V' => r = .bool true ∧ V.Le V' := by
  refine f12_x (_u := ()) ?_
  unfold f12_n
  have small : ∀ n : Int, 0 ≤ n → n ≤ 1000 → inI .i64 n := fun n h1 h2 => inI64 (by omega) (by omega)
  have z := small 0 (by decide) (by decide)
  refine (modNew_ok (View.Le.refl V) (d := 5) (by decide) (by decide)).mono ?_
  rintro r V1 ⟨V01, p, mb, rfl, hS1, hp0, hmb0, hm1⟩
  have hO1 : OkH (newP 5) := OkH.new (by decide) (by decide)
  refine ⟨_, rfl, (modDo_ok (c := cC) (y := ⟨none, 0, 0⟩) hm1 hO1.toOkP (by decide) (calR_of (small 1 (by decide) (by decide)) (by decide) (by decide) z z z rfl) (hg.mono hS1.base)).mono ?_⟩
  rintro r V2 ⟨V02, hS2, hm2, x, y, rfl, hx, hy⟩
  rw [do1] at hm2
  rw [plan1] at *
  refine ⟨_, _, _, _, _, x, y, rfl, fun _ => (modDo_ok (c := cO) (y := ⟨none, 0, 0⟩) hm2 ok1.toOkP (by decide) (calR_of (small 9 (by decide) (by decide)) (by decide) (by decide) z z z rfl) (hg.mono (hS1.base.trans hS2.base))).mono ?_⟩
  rintro r V3 ⟨V03, hS3, hm3, x3, y3, rfl, hx3, hy3⟩
  rw [do2] at hm3
  rw [plan2] at *
  refine ⟨_, _, _, _, _, x3, y3, rfl, fun _ b hb => ?_⟩
  have hfr := View.see_none_of_ge hb
  refine ⟨_, _, View.see_put_same _ _ _, ?_⟩
  rw [View.put_put]
  have hn3 : V03.see b = none := see_none_le hm3.le hfr
  have hSb : Mv (fun i => i = p ∨ i = mb) V03 V3 (V03.put b (.cells ⟨u8s [120, 121]⟩ 5 (2, 3))) (V3.put b (.cells ⟨u8s [120, 121]⟩ 5 (2, 3))) := Mv.new _ hm3.le hfr
  have hbp : p ≠ b := by
    rintro rfl
    obtain ⟨s, hs, es, cl, hc⟩ := hm3.ex
    rw [hc.box] at hfr; cases hfr
  have hbm : mb ≠ b := by
    rintro rfl
    obtain ⟨s, hs, es, cl, hc⟩ := hm3.ex
    rw [hc.map] at hfr; cases hfr
  have hSb' : Mv NoB V03 V3 (V03.put b (.cells ⟨u8s [120, 121]⟩ 5 (2, 3))) (V3.put b (.cells ⟨u8s [120, 121]⟩ 5 (2, 3))) := Mv.new _ hm3.le hfr
  have hm3b := hm3.stp hSb' id id
  have hcW : CalR (V03.put b (.cells ⟨u8s [120, 121]⟩ 5 (2, 3))) ⟨some ⟨b, 0, none⟩, 2, 2⟩ cW := by
    refine ⟨small 12 (by decide) (by decide), by decide, by decide, z, small 2 (by decide) (by decide), z, ?_⟩
    refine ⟨rfl, Nat.le_refl _, (show (2 : Nat) ≤ 9223372036854775807 by decide), fun i hi => ?_⟩
    have hi : i < 2 := hi
    refine ⟨⟨b, 0, none⟩, [.int .u8 (([120, 121] : List UInt8).getD i 0).toNat], rfl, cellsAt_one.2 ?_, ?_⟩
    · rw [addr0_add]
      refine cell_of_see (View.see_put_same _ _ _) ?_
      match i, hi with
      | 0, _ => rfl
      | 1, _ => rfl
    · match i, hi with
      | 0, _ => rfl
      | 1, _ => rfl
  refine (modDo_ok (c := cW) (y := ⟨some ⟨b, 0, none⟩, 2, 2⟩) hm3b ok2.toOkP (by decide) hcW (hg.mono (hS1.base.trans (hS2.base.trans (hS3.base.trans hSb'.base))))).mono ?_
  rintro r V4 ⟨V04, hS4, hm4, x4, y4, rfl, hx4, hy4⟩
  rw [do3] at hm4
  rw [plan3] at *
  have hg4 : Glo V04 := hg.mono (hS1.base.trans (hS2.base.trans (hS3.base.trans (hSb'.base.trans hS4.base))))
  refine ⟨_, _, _, _, _, x4, y4, rfl, fun _ => (modDo_ok (c := cR) (y := ⟨none, 0, 0⟩) hm4 ok3.toOkP (by decide) (calR_of (small 11 (by decide) (by decide)) (by decide) (by decide) z z (small 9 (by decide) (by decide)) rfl) hg4).mono ?_⟩
  rintro r V5 ⟨V05, hS5, hm5, x5, y5, rfl, hx5, hy5⟩
  rw [do4] at hm5
  rw [plan4] at *
  have hg5 := hg4.mono hS5.base
  have hVV : V.Le V5 := by
    have h1 : V.Le V05 := hS1.base.trans (hS2.base.trans (hS3.base.trans (hSb'.base.trans (hS4.base.trans hS5.base))))
    exact h1.trans hS5.sub
  refine ⟨_, _, _, _, _, x5, y5, rfl, fun _ => ?_⟩
  refine joinP_cut (fun q V6 => q.1 = true ∧ V.Le V6) (br_intro (fun _ => ⟨ba [0, 0, 120, 121], u8_row (hx5.mono hS5.sub), br_intro (fun _ => ?_) (fun h => absurd h (by decide))⟩) (fun h => absurd h (by decide))) ?_
  · refine (modWrites_ok (c := cS) (y := ⟨none, 0, 0⟩) hm5 ok3.toOkP (calR_of (small 14 (by decide) (by decide)) (by decide) (by decide) z z z rfl) hg5).mono ?_
    rintro r V6 ⟨rfl, V06, hS6⟩
    have hm6 := hm5.stp hS6 id id
    rw [plan5]
    refine ⟨_, rfl, br_intro (fun _ => ?_) (fun h => absurd h (by decide))⟩
    refine (modDo_ok (c := cX) (y := ⟨none, 0, 0⟩) hm6 ok3.toOkP (by decide) (calR_of (small 99 (by decide) (by decide)) (by decide) (by decide) z z z rfl) (hg5.mono hS6.base)).mono ?_
    rintro r V7 ⟨V07, hS7, hm7, x7, y7, rfl, _, _⟩
    refine ⟨_, _, _, _, _, x7, y7, rfl, ?_, ?_⟩
    · rw [plan6]; rfl
    · have h1 : V.Le V07 := hS1.base.trans (hS2.base.trans (hS3.base.trans (hSb'.base.trans (hS4.base.trans (hS5.base.trans (hS6.base.trans hS7.base))))))
      exact h1.trans hS7.sub
  · rintro ⟨q, ⟨⟩⟩ V6 ⟨h1, hV⟩
    have h1 : q = true := h1
    subst h1
    exact ⟨rfl, hV⟩
end Go.Proofs.YtoogangnldppaaaGreatDoor

/- CallPlays; CallNil. -/
namespace Go.Proofs.YtoogangnldppaaaGreatDoor
open Go
theorem awake22J {V V0 : View} (hle : V0.Le V) (hg : Glo V0) {Q : Bool → View → Prop} (hQ : ∀ V', V0.Le V' → Q true V') : CallV Tryz.prog 12 ⟨[]⟩ V fun r V' => ∃ x : Bool, r = .bool x ∧ Q x V' :=
  (awake22_ok (hg.mono hle)).mono fun _ V' ⟨h1, h2⟩ => ⟨true, h1, hQ V' (hle.trans h2)⟩
/-- Both models, side by side. -/
structure Both (V0 V : View) (p mb q : Nat) (m : PMod) : Prop where
  mod : ModR V0 V p mb m
  ref : RefR V0 V q m
  pq : p ≠ q
  mq : mb ≠ q
theorem Both.stp {B : Nat → Prop} {V0 V V0' V' : View} {p mb q : Nat} {m : PMod} (h : Both V0 V p mb q m) (k : Mv B V0 V V0' V') (h1 : ¬ B p) (h2 : ¬ B mb) (h3 : ¬ B q) : Both V0' V' p mb q m := ⟨h.mod.stp k h1 h2, h.ref.stp k h3, h.pq, h.mq⟩
theorem NoB.no (i : Nat) : ¬ NoB i := id
end Go.Proofs.YtoogangnldppaaaGreatDoor

/- CallLooks. -/
namespace Go.Proofs.YtoogangnldppaaaGreatDoor
open Go
theorem deed_err {m : PMod} {c : Cal} {d : Dee} (hd : deedP m c = .ok d) : d.a.err = 0 := by
  unfold deedP at hd
  split at hd
  · cases hn : namedP m c with
    | error e => rw [hn] at hd; cases hd
    | ok t => rw [hn] at hd; cases hd; rfl
  split at hd
  · unfold foundP at hd
    split at hd
    · cases hd
    split at hd
    · cases hd; rfl
    split at hd
    · cases hd
    split at hd
    · cases hd; rfl
    split at hd
    · cases hd
    split at hd
    · cases hd
    · cases hd; rfl
  split at hd
  · unfold closesP at hd
    split at hd
    · cases hd
    · rename_i h i hc
      split at hd
      · cases hdr : dropT m.t i with
        | error e => rw [hdr] at hd; cases hd
        | ok t => rw [hdr] at hd; cases hd; rfl
      · cases hd; rfl
  split at hd
  · unfold heldP at hd
    split at hd
    · cases hd
    · rename_i i hi
      split at hd
      · cases hw : writeT m.t m.data i c.at_ c.data with
        | error e => rw [hw] at hd; cases hd
        | ok o => obtain ⟨u, l⟩ := o; rw [hw] at hd; cases hd; rfl
      split at hd
      · cases hw : truncT m.t i c.at_ with
        | error e => rw [hw] at hd; cases hd
        | ok o => obtain ⟨u, l⟩ := o; rw [hw] at hd; cases hd; rfl
      split at hd
      · cases hd
      · cases hd; rfl
  split at hd
  · cases hd; rfl
  split at hd
  · cases hd; rfl
  · cases hd
/-- What only looks. -/
def LookK (k : Int) : Prop := k = 7 ∨ k = 8 ∨ k = 9 ∨ k = 11 ∨ k = 14 ∨ k = 15
theorem deed_look {m : PMod} {c : Cal} {d : Dee} (hk : LookK c.kind) (hd : deedP m c = .ok d) : d.t = m.t ∧ d.todo = [] := by
  unfold LookK at hk
  unfold deedP at hd
  split at hd
  · omega
  split at hd
  · unfold foundP at hd
    split at hd
    · cases hd
    split at hd
    · cases hd; exact ⟨rfl, rfl⟩
    split at hd
    · cases hd
    split at hd
    · cases hd; exact ⟨rfl, rfl⟩
    split at hd
    · cases hd
    split at hd
    · cases hd
    · cases hd; exact ⟨rfl, rfl⟩
  split at hd
  · omega
  split at hd
  · unfold heldP at hd
    split at hd
    · cases hd
    · split at hd
      · omega
      split at hd
      · omega
      split at hd
      · cases hd
      · cases hd; exact ⟨rfl, rfl⟩
  split at hd
  · cases hd; exact ⟨rfl, rfl⟩
  split at hd
  · cases hd; exact ⟨rfl, rfl⟩
  · cases hd
theorem writes_of {m : PMod} {c : Cal} : writesP m c = false ↔ (plansP m c).todo = [] ∧ (plansP m c).t = m.t := by
  unfold writesP
  rw [Bool.or_eq_false_iff, decide_eq_false_iff_not, Bool.not_eq_false', decide_eq_true_eq]
  constructor
  · rintro ⟨h1, h2⟩; exact ⟨List.eq_nil_of_length_eq_zero (by omega), h2⟩
  · rintro ⟨h1, h2⟩; rw [h1]; exact ⟨by simp, h2⟩
theorem look_idle {m : PMod} {c : Cal} (hk : LookK c.kind) : writesP m c = false := by
  rw [writes_of]
  unfold plansP
  cases hd : deedP m c with
  | error e => exact ⟨rfl, rfl⟩
  | ok d => obtain ⟨h1, h2⟩ := deed_look hk hd; exact ⟨h2, h1⟩
theorem err_idle {m : PMod} {c : Cal} (he : (plansP m c).a.err ≠ 0) : writesP m c = false := by
  rw [writes_of]
  unfold plansP at he ⊢
  cases hd : deedP m c with
  | error e => exact ⟨rfl, rfl⟩
  | ok d => rw [hd] at he; exact absurd (deed_err hd) he
theorem idle_same {m : PMod} {c : Cal} (h : writesP m c = false) : (doP m c).t = m.t := by
  obtain ⟨h1, h2⟩ := writes_of.1 h
  unfold doP
  rw [h1]
  exact h2
theorem done_new (k : Nat) : ∀ (l : List Tod) (t : Tre) (q : Int), k < t.length → (t.getD k default).seqs.length = 5 → (∀ x ∈ l, x.page < 5) → l ≠ [] → ∃ s ∈ allS (doneU k t l (upS q l.length)), q < s
  | [], _, _, _, _, _, h => absurd rfl h
  | x :: l, t, q, hk, h5, hx, _ => by
    have hat := putS_at (t := t) (k := k) (p := x.page.toNat) (s := q + 1) hk
    have hx0 := hx x (by simp)
    by_cases hl : l = []
    · subst hl
      refine ⟨q + 1, ?_, by omega⟩
      show q + 1 ∈ allS (putS t k x.page.toNat (q + 1))
      refine mem_allS.2 ⟨k, by rw [putS_len]; exact hk, ?_⟩
      rw [hat]
      show q + 1 ∈ (t.getD k default).seqs.set x.page.toNat (q + 1)
      exact List.mem_iff_getElem.2 ⟨x.page.toNat, by rw [List.length_set, h5]; omega, List.getElem_set_self _⟩
    · obtain ⟨s, hs, h⟩ := done_new k l (putS t k x.page.toNat (q + 1)) (q + 1) (by rw [putS_len]; exact hk) (by rw [hat]; exact (List.length_set ..).trans h5) (fun y hy => hx y (List.mem_cons_of_mem _ hy)) hl
      exact ⟨s, hs, by omega⟩
theorem writes_new {m : PMod} {c : Cal} (hO : OkP m) (h : writesP m c = true) : (doP m c).t ≠ m.t := by
  obtain ⟨hT, _⟩ := plans_ok (c := c) hO
  by_cases hl : (plansP m c).todo = []
  · intro e
    have : (doP m c).t = (plansP m c).t := by unfold doP; rw [hl]; rfl
    rw [writes_of.2 ⟨hl, by rw [← this]; exact e⟩] at h
    cases h
  · intro e
    obtain ⟨x, hx⟩ := List.exists_mem_of_ne_nil _ hl
    have hkk := (hT.todo x hx).2.2.2.2.1
    have h12 := (mayF hT.may).len
    have hk12 := hT.k12
    obtain ⟨s, hs, hq⟩ := done_new (nodeD (plansP m c).todo) (plansP m c).todo (plansP m c).t m.seq (by omega) (file_facts ((mayF hT.may).at hk12) hkk).2.2.2.2.1 (fun y hy => (hT.todo y hy).2.2.1) hl
    have hs : s ∈ allS (doP m c).t := hs
    rw [e] at hs
    have := hO.top s hs
    omega
theorem callLooks_ok {V : View} {data : Int} {y : Sl} {l : List Cal} (h : SlR V y l) (hg : Glo V) : CallV Tryz.prog 5 ⟨[.int .i64 data, .slice y.a y.n y.c]⟩ V fun r V' => r = .bool true ∧ V.Le V' := by
  refine f5_x ?_
  unfold f5_n
  refine (heavy22_ok h).mono ?_
  rintro r V0 ⟨x, rfl, hx0, hx151, hx, rfl⟩
  refine ⟨x, rfl, br_intro (fun _ => awake22J (View.Le.refl _) hg fun V' h => ⟨rfl, h⟩) (fun hb => ?_)⟩
  obtain ⟨hl150, _⟩ := hx (by have := of_decide_eq_false hb; omega)
  have hyn := h.n
  have hw := wrap_u64_nn data
  have ht1 := Int.tmod_nonneg 60 hw
  have ht2 := Int.tmod_lt_of_pos (IntKind.wrap .u64 data) (show (0 : Int) < 60 by omega)
  generalize Int.tmod (IntKind.wrap .u64 data) 60 = dd at ht1 ht2
  refine ⟨by decide, inI64 (by omega) (by omega), inI64 (by omega) (by omega), (modNew_ok (View.Le.refl V0) (d := 1 + dd) (by omega) (by omega)).mono ?_⟩
  rintro r V1 ⟨V01, p, mb, rfl, hS1, hp0, hmb0, hm1⟩
  refine ⟨_, rfl, br_intro (fun h => by cases h) (fun _ => ?_)⟩
  refine loop1 (k := .int .i64) (fun (jj : Int) V3 => ∃ (j : Nat) (V03 : View) (m : PMod), jj = j ∧ j ≤ l.length ∧ V0.Le V03 ∧ ModR V03 V3 p mb m ∧ OkP m ∧ m.seq ≤ 80 * j) (fun (jj : Int) _ => l.length - jj.toNat)
    ⟨0, V01, newP (1 + dd), rfl, by omega, hS1.base, hm1, OkP.new (by omega) (by omega), Int.le_refl 0⟩ ?_
  rintro (jj : Int) V3 ⟨j, V03, m, rfl, hj, hV3, hm3, hO3, hs3⟩
  refine br_intro (fun hlt => ?_) (fun hge => ?_)
  · have hlt : j < l.length := by have := of_decide_eq_true hlt; omega
    obtain ⟨ad, yc, ha, hcc, hC⟩ := h.calN hlt
    have hsq : m.seq + 80 ≤ 1099511627776 := by omega
    refine ⟨by omega, by omega, ad, ha, _, _, _, _, _, _, yc, cellsAt_mono (hV3.trans hm3.le) hcc, fun _ => (modTree_ok hm3 hO3.may).mono ?_⟩
    rintro r V4 ⟨V04, x4, rfl, hx4, hS4⟩
    have hm4 := hm3.stp hS4 id id
    have hV4 := hV3.trans hS4.base
    refine ⟨x4, rfl, fun _ => (modWrites_ok hm4 hO3 (hC.mono hV4) (hg.mono hV4)).mono ?_⟩
    rintro r V5 ⟨rfl, V05, hS5⟩
    have hm5 := hm4.stp hS5 id id
    have hV5 := hV4.trans hS5.base
    refine ⟨_, rfl, (modDo_ok hm5 hO3 hsq (hC.mono hV5) (hg.mono hV5)).mono ?_⟩
    rintro r V6 ⟨V06, hS6, hm6, xa, xb, rfl, hxa, hxb⟩
    have hV6 := hV5.trans hS6.base
    have hO6 := hO3.step (c := l.getD j default) hsq
    refine ⟨_, _, _, _, _, xa, xb, rfl, fun _ => (modTree_ok hm6 hO6.1.may).mono ?_⟩
    rintro r V7 ⟨V07, x7, rfl, hx7, hS7⟩
    have hm7 := hm6.stp hS7 id id
    have hV7 := hV6.trans hS7.base
    have hT4 : SlR V7 x4 m.t := hx4.mono (hS5.base.trans (hS6.base.trans (hS7.base.trans hS7.sub)))
    have hT7 : SlR V7 x7 (doP m (l.getD j default)).t := hx7.mono hS7.sub
    have hA := @look_idle m (l.getD j default)
    have hE := @err_idle m (l.getD j default)
    have hI := @idle_same m (l.getD j default)
    have hN := @writes_new m (l.getD j default) hO3
    refine ⟨x7, rfl, fun _ => joinP_cut (fun z V8 => z.1 = false ∧ V8 = V7) ?_ ?_⟩
    · refine br_intro (fun hc => absurd hc ?_) (fun _ => br_intro (fun hc => (refSameT_ok hT4 hT7).mono ?_) (fun hc => ?_))
      · cases hw : writesP m (l.getD j default) with
        | false => simp
        | true =>
          have hk : ¬ LookK (l.getD j default).kind := fun hk => by rw [hA hk] at hw; cases hw
          unfold LookK at hk
          simp only [not_or] at hk
          obtain ⟨k1, k2, k3, k4, k5, k6⟩ := hk
          rw [decide_eq_false k1, decide_eq_false k2, decide_eq_false k3, decide_eq_false k4, decide_eq_false k5, decide_eq_false k6]
          simp
      · rintro r V8 ⟨rfl, rfl⟩
        refine ⟨_, rfl, ?_, rfl⟩
        have hz : (doP m (l.getD j default)).t = m.t := by
          refine hI ?_
          by_cases he : (plansP m (l.getD j default)).a.err = 0
          · rw [decide_eq_true he] at hc
            simpa using hc
          · exact hE he
        rw [decide_eq_true hz.symm]
        cases hw : writesP m (l.getD j default) with
        | false => rfl
        | true =>
          by_cases he : (plansP m (l.getD j default)).a.err = 0
          · rw [decide_eq_true he]; rfl
          · rw [hE he] at hw; cases hw
      · refine ⟨?_, rfl⟩
        cases hw : writesP m (l.getD j default) with
        | false => rfl
        | true =>
          by_cases he : (plansP m (l.getD j default)).a.err = 0
          · rw [decide_eq_true he]; rfl
          · rw [hE he] at hw; cases hw
    rintro ⟨z, ⟨⟩⟩ V8 ⟨hz, hV8⟩
    have hz : z = false := hz
    have hV8 : V8 = V7 := hV8
    subst hz hV8
    dsimp only [unc]
    refine br_intro (fun h => by cases h) (fun _ => joinP_cut (fun z V9 => z.1 = false ∧ V9 = V8) (br_intro (fun hc => (refSameT_ok hT4 hT7).mono ?_) (fun _ => ⟨rfl, rfl⟩)) ?_)
    · rintro r V9 ⟨rfl, rfl⟩
      exact ⟨_, rfl, decide_eq_false fun e => hN hc e.symm, rfl⟩
    rintro ⟨z, ⟨⟩⟩ V9 ⟨hz, hV9⟩
    have hz : z = false := hz
    have hV9 : V9 = V8 := hV9
    subst hz hV9
    dsimp only [unc]
    refine br_intro (fun h => by cases h) (fun _ => ⟨inI64 (by omega) (by omega), ⟨j + 1, V07, _, by omega, by omega, hV7, hm7, hO6.1, by have := hO6.2.1; push_cast; omega⟩, by omega⟩)
  · refine joinP_cut (fun z V' => z.1 = true ∧ V0.Le V') ((modTree_ok hm3 hO3.may).mono ?_) ?_
    · rintro r V4 ⟨V04, x4, rfl, hx4, hS4⟩
      refine ⟨x4, rfl, (mayTree_ok (hx4.mono hS4.sub)).mono ?_⟩
      rintro r V5 ⟨rfl, hV5⟩
      refine ⟨_, rfl, br_intro (fun _ => awake22J (hV3.trans (hS4.base.trans (hS4.sub.trans hV5))) hg fun V' h => ⟨rfl, h⟩) (fun hc => ?_)⟩
      rw [hO3.may] at hc; cases hc
    rintro ⟨z, ⟨⟩⟩ V' ⟨hz, hV'⟩
    have hz : z = true := hz
    subst hz
    exact ⟨rfl, hV'⟩
end Go.Proofs.YtoogangnldppaaaGreatDoor

/- How rows and trees come in. -/
namespace Go.Proofs.YtoogangnldppaaaGreatDoor
open Go Go.RowKit Go.ChangeShapes Go.WideShapes
section
variable {H : Type} {enc : TypeId × Value → H} {P : Program} {w : World} {base b0 : Nat} {sp : Nat → Bool} {held : Bool} {r : Go.Reach} {v : Value} {d : DataW H} {ps : List MemPlace}
theorem in_slice {α : Type} [Rep α] {t e : TypeId} (ht : P.underlying t = some (.slice e)) (hT : TrodRep P (List α) t) (hv : Value.okWide P w r b0 t v) (hd : DataW.Trod enc P w base sp held t v d ps) :
    ∃ (s : Sl) (l : List α), v = .slice s.a s.n s.c ∧ SlR (View.all w) s l := by
  obtain ⟨a, len, cap, rfl⟩ := okWide_slice ht hv
  obtain ⟨fuel, hf⟩ := hd
  obtain ⟨l, s, he, hs⟩ := hT.of hf
  simp [Value.cells] at he
  exact ⟨s, l, by rw [he.1, he.2.1, he.2.2], hs⟩
end
end Go.Proofs.YtoogangnldppaaaGreatDoor

/- How calls come in. -/
namespace Go.Proofs.YtoogangnldppaaaGreatDoor
open Go Go.RowKit Go.ChangeShapes Go.WideShapes
theorem trodRep_cal {P : Program} {t ti ts tb : TypeId} (h0 : fieldX P t 0 = some (0, ti)) (h1 : fieldX P t 1 = some (1, ts)) (h2 : fieldX P t 2 = some (2, ts)) (h3 : fieldX P t 3 = some (3, ti)) (h4 : fieldX P t 4 = some (4, ti)) (h5 : fieldX P t 5 = some (5, ti)) (h6 : fieldX P t 6 = some (6, tb))
    (hc : P.cellsOf t = 7) (hci : P.cellsOf ti = 1) (hcs : P.cellsOf ts = 1) (hcb : P.cellsOf tb = 1) (hi : P.underlying ti = some (.int .i64)) (hs : P.underlying ts = some .string) (hb : TrodRep P (List UInt8) tb) : TrodRep P Cal t := ⟨fun {H enc w base sp held fuel cs x} h => by
  obtain ⟨hl, n0, y0, g0⟩ := trod_field h0 h
  obtain ⟨_, n1, y1, g1⟩ := trod_field h1 h
  obtain ⟨_, n2, y2, g2⟩ := trod_field h2 h
  obtain ⟨_, n3, y3, g3⟩ := trod_field h3 h
  obtain ⟨_, n4, y4, g4⟩ := trod_field h4 h
  obtain ⟨_, n5, y5, g5⟩ := trod_field h5 h
  obtain ⟨_, n6, y6, g6⟩ := trod_field h6 h
  rw [hc] at hl
  match cs, hl with
  | [a, b, c, d, e, f, g], _ =>
    rw [hci] at g0 g3 g4 g5
    rw [hcs] at g1 g2
    rw [hcb] at g6
    obtain ⟨m0, e0, w0⟩ := (trodRep_int hi).of g0
    obtain ⟨m1, e1, w1⟩ := (trodRep_string hs).of g1
    obtain ⟨m2, e2, w2⟩ := (trodRep_string hs).of g2
    obtain ⟨m3, e3, w3⟩ := (trodRep_int hi).of g3
    obtain ⟨m4, e4, w4⟩ := (trodRep_int hi).of g4
    obtain ⟨m5, e5, w5⟩ := (trodRep_int hi).of g5
    obtain ⟨l6, s6, e6, w6⟩ := hb.of g6
    simp at e0 e1 e2 e3 e4 e5 e6
    exact ⟨⟨m0, m1, m2, m3, m4, m5, l6⟩, s6, by rw [e0, e1, e2, e3, e4, e5, e6]; rfl, ⟨w0, w1, w2, w3, w4, w5, w6⟩⟩⟩
theorem calIn : TrodRep Tryz.prog Cal 35 := trodRep_cal (ti := 3) (ts := 9) (tb := 23) (by kernel_rfl) (by kernel_rfl) (by kernel_rfl) (by kernel_rfl) (by kernel_rfl) (by kernel_rfl) (by kernel_rfl) (by kernel_rfl) (by kernel_rfl) (by kernel_rfl) (by kernel_rfl) Tryz.underlying3 Tryz.underlying9 bytesIn
theorem calsIn : TrodRep Tryz.prog (List Cal) 22 := trodRep_slice (e := 35) Tryz.underlying22 (by kernel_rfl) calIn
end Go.Proofs.YtoogangnldppaaaGreatDoor
