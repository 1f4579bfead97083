/- Trees as bytes: plain functions and what they answer. No program in this text. -/
import Derived.Test.YtpalkdmngckcoaaReadNOk
import Derived.Test.YtpalkdmngckcoaaDirLaw
namespace Go.Proofs.Ytpalkdmngckcoaa
open Go
def encE (x : Ent) : List UInt8 := textL (bl x.name) ++ numI x.node
def encEs (l : List Ent) : List UInt8 := (l.map encE).flatten
/-- A node as bytes. -/
def encN (n : Nod) : List UInt8 :=
  numI n.kind ++ (if n.kind = 1 then numI n.links ++ numI n.size ++ numsL n.seqs else if n.kind = 2 then numI n.ents.length ++ encEs n.ents else [])
theorem encN_1 {n : Nod} (h : n.kind = 1) : encN n = numI 1 ++ (numI n.links ++ numI n.size ++ numsL n.seqs) := by unfold encN; rw [if_pos h, h]
theorem encN_2 {n : Nod} (h : n.kind = 2) : encN n = numI 2 ++ (numI n.ents.length ++ encEs n.ents) := by unfold encN; rw [if_neg (by omega), if_pos h, h]
theorem encN_0 {n : Nod} (h1 : ¬ n.kind = 1) (h2 : ¬ n.kind = 2) : encN n = numI n.kind := by unfold encN; rw [if_neg h1, if_neg h2, List.append_nil]
/-- A tree as bytes. -/
def encT (t : Tre) : List UInt8 := (t.map encN).flatten
/-- Nodes, one behind the other. -/
def rdTre : Nat → Stt → Tre × Stt
  | 0, st => ([], st)
  | k + 1, st => ((rdTre k st).1 ++ [(rdNod (rdTre k st).2).1], (rdNod (rdTre k st).2).2)
/-- The tree that bytes are. -/
noncomputable def parseT (l : List UInt8) : Option Tre :=
  if (rdTre 12 (some l)).2 = some [] ∧ mayT (rdTre 12 (some l)).1 = true then some (rdTre 12 (some l)).1 else none
theorem clampN_nat {n : Nat} (h : n ≤ 1099511627776) : clampN n = n := by unfold clampN; omega
theorem rdN_some {st : Stt} {most : Nat} {r : List UInt8} (h : (rdN st most).2 = some r) : ∃ l, st = some l ∧ l = numL (rdN st most).1.toNat ++ r := by
  unfold rdN at h ⊢
  split at h
  · cases h
  · rename_i b
    split at h
    · cases h
    · rename_i n r' hp
      cases h
      refine ⟨b, rfl, ?_⟩
      exact (numL_numP hp).2
theorem rdN_numI {st : Stt} {most : Nat} {r : List UInt8} (hm : most ≤ 1099511627776) (h : (rdN st most).2 = some r) : ∃ l, st = some l ∧ l = numI (rdN st most).1 ++ r := by
  obtain ⟨l, h1, h2⟩ := rdN_some h
  refine ⟨l, h1, ?_⟩
  have hr := rdN_range st most
  unfold numI
  have : clampN (rdN st most).1 = (rdN st most).1.toNat := by unfold clampN; omega
  rw [this]; exact h2
theorem rdT_some {st : Stt} {most : Nat} {r : List UInt8} (hm : most ≤ 1099511627776) (h : (rdT st most).2 = some r) : ∃ l, st = some l ∧ l = textL (rdT st most).1 ++ r := by
  unfold rdT at h ⊢
  split at h
  · cases h
  · rename_i b
    split at h
    · cases h
    · rename_i t r' hp
      cases h
      refine ⟨b, rfl, ?_⟩
      unfold textP at hp
      split at hp
      · cases hp
      · rename_i n q hq
        split at hp
        · cases hp
        · rename_i hlt
          cases hp
          obtain ⟨h1, h2⟩ := numL_numP hq
          unfold textL numI
          have : (q.take n).length = n := by simp; omega
          rw [this, clampN_nat (by omega), List.append_assoc, List.take_append_drop]
          exact h2
theorem rdSeqs_some : ∀ {k : Nat} {st : Stt} {r : List UInt8}, (rdSeqs k st).2 = some r → ∃ l, st = some l ∧ l = numsL (rdSeqs k st).1 ++ r
  | 0, st, r, h => ⟨r, h, rfl⟩
  | k + 1, st, r, h => by
    obtain ⟨m, h1, h2⟩ := rdN_numI (by decide) (show (rdN (rdSeqs k st).2 1099511627776).2 = some r from h)
    obtain ⟨l, h3, h4⟩ := rdSeqs_some h1
    refine ⟨l, h3, ?_⟩
    rw [h4, h2]
    show _ = numsL ((rdSeqs k st).1 ++ [(rdN (rdSeqs k st).2 1099511627776).1]) ++ r
    rw [numsL_append, numsL_one, List.append_assoc]
theorem encEs_snoc (l : List Ent) (x : Ent) : encEs (l ++ [x]) = encEs l ++ encE x := by simp [encEs]
theorem rdEnts_some : ∀ {k : Nat} {st : Stt} {r : List UInt8}, (rdEnts k st).2 = some r → ∃ l, st = some l ∧ l = encEs (rdEnts k st).1 ++ r
  | 0, st, r, h => ⟨r, h, rfl⟩
  | k + 1, st, r, h => by
    obtain ⟨m, h1, h2⟩ := rdN_numI (by decide) (show (rdN (rdT (rdEnts k st).2 8).2 11).2 = some r from h)
    obtain ⟨m2, h5, h6⟩ := rdT_some (by decide) h1
    obtain ⟨l, h3, h4⟩ := rdEnts_some h5
    refine ⟨l, h3, ?_⟩
    rw [h4, h6, h2]
    show _ = encEs ((rdEnts k st).1 ++ [⟨ba (rdT (rdEnts k st).2 8).1, (rdN (rdT (rdEnts k st).2 8).2 11).1⟩]) ++ r
    rw [encEs_snoc]
    simp only [encE, bl_ba, List.append_assoc]
theorem rdNod_some {st : Stt} {r : List UInt8} (h : (rdNod st).2 = some r) : ∃ l, st = some l ∧ l = encN (rdNod st).1 ++ r := by
  by_cases h1 : (rdN st 2).1 = 1
  · have hD : rdNod st = rdFile (rdN st 2).2 := by unfold rdNod; rw [if_pos h1]
    rw [hD] at h ⊢
    obtain ⟨l3, a3, b3⟩ := rdSeqs_some (show (rdSeqs 5 (rdN (rdN (rdN st 2).2 120).2 80).2).2 = some r from h)
    obtain ⟨l2, a2, b2⟩ := rdN_numI (by decide) a3
    obtain ⟨l1, a1, b1⟩ := rdN_numI (by decide) a2
    obtain ⟨l0, a0, b0⟩ := rdN_numI (by decide) a1
    refine ⟨l0, a0, ?_⟩
    rw [b0, b1, b2, b3, h1]
    rw [encN_1 rfl]
    simp only [rdFile, List.append_assoc]
  · by_cases h2 : (rdN st 2).1 = 2
    · have hD : rdNod st = rdDir (rdN st 2).2 := by unfold rdNod; rw [if_neg h1, if_pos h2]
      rw [hD] at h ⊢
      obtain ⟨l2, a2, b2⟩ := rdEnts_some (show (rdEnts (rdN (rdN st 2).2 10).1.toNat (rdN (rdN st 2).2 10).2).2 = some r from h)
      obtain ⟨l1, a1, b1⟩ := rdN_numI (by decide) a2
      obtain ⟨l0, a0, b0⟩ := rdN_numI (by decide) a1
      refine ⟨l0, a0, ?_⟩
      rw [b0, b1, b2, h2]
      have hr := rdN_range (rdN st 2).2 10
      have e : (((rdEnts (rdN (rdN st 2).2 10).1.toNat (rdN (rdN st 2).2 10).2).1.length : Nat) : Int) = (rdN (rdN st 2).2 10).1 := by rw [rdEnts_len]; omega
      rw [encN_2 rfl]
      simp only [rdDir, e, List.append_assoc]
    · have hD : rdNod st = (⟨(rdN st 2).1, 0, 0, [], []⟩, (rdN st 2).2) := by unfold rdNod; rw [if_neg h1, if_neg h2]
      rw [hD] at h ⊢
      obtain ⟨l0, a0, b0⟩ := rdN_numI (by decide) (show (rdN st 2).2 = some r from h)
      refine ⟨l0, a0, ?_⟩
      rw [encN_0 h1 h2]
      exact b0
theorem encT_snoc (t : Tre) (n : Nod) : encT (t ++ [n]) = encT t ++ encN n := by simp [encT]
theorem rdTre_some : ∀ {k : Nat} {st : Stt} {r : List UInt8}, (rdTre k st).2 = some r → ∃ l, st = some l ∧ l = encT (rdTre k st).1 ++ r
  | 0, st, r, h => ⟨r, h, rfl⟩
  | k + 1, st, r, h => by
    obtain ⟨m, h1, h2⟩ := rdNod_some (show (rdNod (rdTre k st).2).2 = some r from h)
    obtain ⟨l, h3, h4⟩ := rdTre_some h1
    refine ⟨l, h3, ?_⟩
    rw [h4, h2]
    show _ = encT ((rdTre k st).1 ++ [(rdNod (rdTre k st).2).1]) ++ r
    rw [encT_snoc, List.append_assoc]
/-- What was read is just what these bytes say. -/
theorem parseT_enc {l : List UInt8} {t : Tre} (h : parseT l = some t) : mayT t = true ∧ encT t = l := by
  unfold parseT at h
  split at h
  · rename_i hc
    cases h
    obtain ⟨m, h1, h2⟩ := rdTre_some hc.1
    cases h1
    exact ⟨hc.2, by rw [List.append_nil] at h2; exact h2.symm⟩
  · cases h
theorem rdTre_len : ∀ (k : Nat) (st : Stt), (rdTre k st).1.length = k
  | 0, _ => rfl
  | k + 1, st => by simp [rdTre, rdTre_len k st]
end Go.Proofs.Ytpalkdmngckcoaa
