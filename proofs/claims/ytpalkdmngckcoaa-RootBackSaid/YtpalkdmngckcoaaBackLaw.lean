/- What is written is read as it was. No program in this text. -/
import Derived.Test.YtpalkdmngckcoaaRootLaw
import Derived.Test.YtpalkdmngckcoaaApartOk
namespace Go.Proofs.Ytpalkdmngckcoaa
open Go
theorem rdN_enc {n : Int} {most : Nat} {r : List UInt8} (h0 : 0 ≤ n) (h1 : n ≤ most) (hm : most ≤ 1099511627776) : rdN (some (numI n ++ r)) most = (n, some r) := by
  have hc : clampN n = n.toNat := by unfold clampN; omega
  unfold rdN numI
  simp only [hc]
  rw [numP_numL (n := n.toNat) (most := most) (by omega) (by omega) r]
  simp only
  rw [Int.toNat_of_nonneg h0]
theorem rdT_enc {b : List UInt8} {most : Nat} {r : List UInt8} (h1 : b.length ≤ most) (hm : most ≤ 1099511627776) : rdT (some (textL b ++ r)) most = (b, some r) := by
  have hp : textP most (textL b ++ r) = some (b, r) := by
    unfold textP textL numI
    rw [clampN_nat (by omega), List.append_assoc, numP_numL (by omega) h1]
    simp only
    rw [if_neg (by simp), List.take_left' rfl, List.drop_left' rfl]
  simp only [rdT, hp]
theorem rdSeqs_enc : ∀ (k : Nat) (l : List Int) (r : List UInt8), l.length = k → (∀ n ∈ l, 0 ≤ n ∧ n ≤ 1099511627776) → rdSeqs k (some (numsL l ++ r)) = (l, some r)
  | 0, l, r, hl, _ => by
    have := List.eq_nil_of_length_eq_zero hl
    subst this; rfl
  | k + 1, l, r, hl, hr => by
    rcases List.eq_nil_or_concat l with h1 | ⟨l', x, h1⟩
    · rw [h1] at hl; cases hl
    · have h1 : l = l' ++ [x] := by simpa using h1
      subst h1
      have hx := hr x (by simp)
      have ih := rdSeqs_enc k l' (numI x ++ r) (by simpa using hl) fun n hn => hr n (by simp [hn])
      rw [numsL_append, numsL_one, List.append_assoc]
      unfold rdSeqs
      rw [ih]
      simp only
      rw [rdN_enc hx.1 hx.2 (by decide)]
theorem rdEnts_enc : ∀ (k : Nat) (l : List Ent) (r : List UInt8), l.length = k → (∀ e ∈ l, e.name.size ≤ 8 ∧ 0 ≤ e.node ∧ e.node ≤ 11) → rdEnts k (some (encEs l ++ r)) = (l, some r)
  | 0, l, r, hl, _ => by
    have := List.eq_nil_of_length_eq_zero hl
    subst this; rfl
  | k + 1, l, r, hl, hr => by
    rcases List.eq_nil_or_concat l with h1 | ⟨l', x, h1⟩
    · rw [h1] at hl; cases hl
    · have h1 : l = l' ++ [x] := by simpa using h1
      subst h1
      have hx := hr x (by simp)
      have ih := rdEnts_enc k l' (textL (bl x.name) ++ (numI x.node ++ r)) (by simpa using hl) fun n hn => hr n (by simp [hn])
      rw [encEs_snoc]
      unfold encE
      rw [List.append_assoc, List.append_assoc]
      unfold rdEnts
      rw [ih]
      simp only
      rw [rdT_enc (by rw [bl_len]; exact hx.1) (by decide)]
      simp only
      rw [rdN_enc hx.2.1 (by omega) (by decide), ba_bl]
theorem rdNod_enc {n : Nod} {r : List UInt8} (h : mayN n = true) : rdNod (some (encN n ++ r)) = (n, some r) := by
  obtain ⟨kind, links, size, seqs, ents⟩ := n
  have hm := h
  unfold mayN at hm
  simp only at hm
  split at hm
  · rename_i hk
    subst hk
    simp only [Bool.and_eq_true, decide_eq_true_eq, List.length_eq_zero_iff] at hm
    obtain ⟨⟨⟨rfl, rfl⟩, rfl⟩, rfl⟩ := hm
    rw [encN_0 (by decide) (by decide)]
    unfold rdNod
    rw [rdN_enc (by decide) (by decide) (by decide)]
    rfl
  · split at hm
    · rename_i hk
      subst hk
      unfold fileB within at hm
      simp only [Bool.and_eq_true, decide_eq_true_eq, List.length_eq_zero_iff, List.all_eq_true, List.mem_range] at hm
      obtain ⟨⟨⟨⟨⟨l0, l1⟩, ⟨z0, z1⟩⟩, h5⟩, rfl⟩, hs⟩ := hm
      have hs2 : ∀ n ∈ seqs, 0 ≤ n ∧ n ≤ 1099511627776 := fun n hn => by
        obtain ⟨i, hi, rfl⟩ := List.getElem_of_mem hn
        have := hs i hi
        unfold okS within at this
        rw [getD_at0 hi] at this
        simp only [Bool.and_eq_true, decide_eq_true_eq] at this
        exact this.1
      rw [encN_1 rfl]
      simp only [List.append_assoc]
      unfold rdNod
      rw [rdN_enc (n := 1) (by decide) (by decide) (by decide)]
      simp only [if_pos]
      unfold rdFile
      rw [rdN_enc l0 (by exact l1) (by decide)]
      simp only
      rw [rdN_enc z0 (by exact z1) (by decide)]
      simp only
      rw [rdSeqs_enc 5 seqs r h5 hs2]
    · split at hm
      · rename_i h1 hk
        subst hk
        simp only [Bool.and_eq_true, decide_eq_true_eq, List.length_eq_zero_iff] at hm
        obtain ⟨⟨⟨rfl, rfl⟩, rfl⟩, hl⟩ := hm
        have h10 := mayL_len hl
        have he : ∀ e ∈ ents, e.name.size ≤ 8 ∧ 0 ≤ e.node ∧ e.node ≤ 11 := fun e he => by
          have := mayL_node hl he
          have := mayB_size this.2.2
          omega
        rw [encN_2 rfl]
        simp only [List.append_assoc]
        unfold rdNod
        rw [rdN_enc (n := 2) (by decide) (by decide) (by decide)]
        simp only
        rw [if_neg (by decide), if_pos trivial]
        unfold rdDir
        rw [rdN_enc (n := ((ents.length : Nat) : Int)) (by omega) (by omega) (by decide)]
        simp only [Int.toNat_natCast]
        rw [rdEnts_enc ents.length ents r rfl he]
      · cases hm
theorem rdTre_enc : ∀ (k : Nat) (t : Tre) (r : List UInt8), t.length = k → (∀ n ∈ t, mayN n = true) → rdTre k (some (encT t ++ r)) = (t, some r)
  | 0, t, r, hl, _ => by
    have := List.eq_nil_of_length_eq_zero hl
    subst this; rfl
  | k + 1, t, r, hl, hr => by
    rcases List.eq_nil_or_concat t with h1 | ⟨t', x, h1⟩
    · rw [h1] at hl; cases hl
    · have h1 : t = t' ++ [x] := by simpa using h1
      subst h1
      have hx := hr x (by simp)
      have ih := rdTre_enc k t' (encN x ++ r) (by simpa using hl) fun n hn => hr n (by simp [hn])
      rw [encT_snoc, List.append_assoc]
      unfold rdTre
      rw [ih]
      simp only
      rw [rdNod_enc hx]
theorem mayT_facts {t : Tre} (h : mayT t = true) : t.length = 12 ∧ (∀ n ∈ t, mayN n = true) ∧ apartL (allS t) = true := by
  unfold mayT at h
  simp only [Bool.and_eq_true, decide_eq_true_eq, List.all_eq_true] at h
  exact ⟨h.1.1.1.1, h.1.1.1.2, h.2⟩
theorem rdT_full {t : Tre} (h : mayT t = true) (r : List UInt8) : rdTre 12 (some (encT t ++ r)) = (t, some r) := rdTre_enc 12 t r (mayT_facts h).1 (mayT_facts h).2.1
/-- What is written is read as it was. -/
theorem parseT_back {t : Tre} (h : mayT t = true) : parseT (encT t) = some t := by
  have := rdT_full h []
  rw [List.append_nil] at this
  unfold parseT
  rw [this, if_pos ⟨rfl, h⟩]
/-- Two trees with the same bytes are the same. -/
theorem encT_inj {t u : Tre} (ht : mayT t = true) (hu : mayT u = true) (h : encT t = encT u) : t = u := by
  have := parseT_back ht
  rw [h, parseT_back hu] at this
  exact (Option.some.inj this).symm
theorem parseT_cut {t : Tre} {m : Nat} (h : mayT t = true) (hm : m < (encT t).length) : parseT ((encT t).take m) = none := by
  cases hp : parseT ((encT t).take m) with
  | none => rfl
  | some u =>
    exfalso
    obtain ⟨hu, he⟩ := parseT_enc hp
    have h1 := rdT_full h []
    have h2 := rdT_full hu ((encT t).drop m)
    rw [he, List.take_append_drop] at h2
    rw [List.append_nil, h2] at h1
    have h3 : (encT t).drop m = [] := Option.some.inj (Prod.mk.inj h1).2
    have := List.length_drop (i := m) (l := encT t)
    rw [h3] at this
    simp at this
    omega
theorem parseT_more {t : Tre} {c : UInt8} (h : mayT t = true) : parseT (encT t ++ [c]) = none := by
  unfold parseT
  rw [rdT_full h [c], if_neg (by rintro ⟨h, _⟩; simp at h)]
theorem encN_pos (n : Nod) : 0 < (encN n).length := by
  unfold encN numI numL
  simp only [List.length_append, List.length_cons, List.length_nil]
  omega
theorem encT_pos {t : Tre} (h : mayT t = true) : 0 < (encT t).length := by
  have h12 := (mayT_facts h).1
  cases t with
  | nil => cases h12
  | cons n t =>
    have e : encT (n :: t) = encN n ++ encT t := by simp [encT]
    have := encN_pos n
    rw [e, List.length_append]; omega
end Go.Proofs.Ytpalkdmngckcoaa
