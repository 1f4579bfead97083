/- Contracts of bytes.Reader. -/
import Derived.Test.YtpalkdmngckcoaaBytesOk
namespace Go.Proofs.Ytpalkdmngckcoaa
open Go
/-- What a reader's cells are. -/
def RdC (V : View) (p : Nat) (s : Sl) (e : Int) : Prop := ∃ ty, V.see p = some (.cells ⟨[.slice s.a s.n s.c, .int .i64 e]⟩ ty (0, 0))
/-- A reader: what is left; none: there was an error. -/
def Rd (V : View) (p : Nat) (st : Option (List UInt8)) : Prop :=
  ∃ (s : Sl) (e : Int) (bs : List UInt8), RdC V p s e ∧ SlR (V.hide p) s bs ∧ bs.length ≤ 140737488350000 ∧ (st = some bs ∧ e = 0 ∨ st = none ∧ e = 5)
theorem RdC.c0 {V : View} {p : Nat} {s : Sl} {e : Int} (h : RdC V p s e) : V.cell? ((⟨p, 0, none⟩ : Addr).add 0) = some (.slice s.a s.n s.c) := by
  obtain ⟨ty, h⟩ := h
  exact cell_of_see h rfl
theorem RdC.c1 {V : View} {p : Nat} {s : Sl} {e : Int} (h : RdC V p s e) : V.cell? ((⟨p, 0, none⟩ : Addr).add 1) = some (.int .i64 e) := by
  obtain ⟨ty, h⟩ := h
  exact cell_of_see h rfl
theorem RdC.set1 {V : View} {p : Nat} {s : Sl} {e : Int} (h : RdC V p s e) (e' : Int) : canSet V ((⟨p, 0, none⟩ : Addr).add 1) 1 ∧ RdC (V.sets ((⟨p, 0, none⟩ : Addr).add 1) [.int .i64 e']) p s e' ∧ (V.hide p).Le ((V.sets ((⟨p, 0, none⟩ : Addr).add 1) [.int .i64 e']).hide p) := by
  obtain ⟨ty, h⟩ := h
  have e1 : (⟨p, 0, none⟩ : Addr).add 1 = ⟨p, 1, none⟩ := rfl
  rw [e1, sets_see h]
  exact ⟨canSet_of h (show 1 + 1 ≤ 2 by decide), ⟨ty, by rw [View.see_put_same]; rfl⟩, hide_le_put_hide p _⟩
theorem RdC.set0 {V : View} {p : Nat} {s : Sl} {e : Int} (h : RdC V p s e) (s' : Sl) : canSet V ((⟨p, 0, none⟩ : Addr).add 0) 1 ∧ RdC (V.sets ((⟨p, 0, none⟩ : Addr).add 0) [.slice s'.a s'.n s'.c]) p s' e ∧ (V.hide p).Le ((V.sets ((⟨p, 0, none⟩ : Addr).add 0) [.slice s'.a s'.n s'.c]).hide p) := by
  obtain ⟨ty, h⟩ := h
  have e1 : (⟨p, 0, none⟩ : Addr).add 0 = ⟨p, 0, none⟩ := rfl
  rw [e1, sets_see h]
  exact ⟨canSet_of h (show 0 + 1 ≤ 2 by decide), ⟨ty, by rw [View.see_put_same]; rfl⟩, hide_le_put_hide p _⟩
theorem Rd.mono {V V' : View} {p : Nat} {st : Option (List UInt8)} (h : Rd V p st) (hV : V.Le V') : Rd V' p st := by
  obtain ⟨s, e, bs, ⟨ty, h1⟩, h2, h3, h4⟩ := h
  have hh : (V.hide p).Le (V'.hide p) := by
    refine ⟨hV.size, fun i o ho => ?_, hV.out⟩
    unfold View.hide at *
    simp only at *
    split at ho
    · cases ho
    · rename_i hne; rw [if_neg hne]; exact hV.see i o ho
  exact ⟨s, e, bs, ⟨ty, hV.see _ _ h1⟩, h2.mono hh, h3, h4⟩
theorem off_ok {p : Nat} {st : Option (List UInt8)} {V : View} (h : Rd V p st) : CallV Try.prog 76 ⟨[.pointer (some ⟨p, 0, none⟩)]⟩ V fun r V' => r = .bool st.isNone ∧ V' = V := by
  refine f76_x ?_
  unfold f76_n
  obtain ⟨s, e, bs, h1, _, _, h4⟩ := h
  refine joinP_cut (fun b V' => b.1 = st.isNone ∧ V' = V) (br_intro (fun h => absurd h (by simp)) fun _ => ⟨_, rfl, _, h1.c1, ?_, rfl⟩) (fun b V' h => ⟨by rw [h.1], h.2⟩)
  rcases h4 with ⟨rfl, rfl⟩ | ⟨rfl, rfl⟩ <;> rfl
theorem err_ok {p : Nat} {st : Option (List UInt8)} {V : View} (h : Rd V p st) : CallV Try.prog 28 ⟨[.pointer (some ⟨p, 0, none⟩)]⟩ V fun r V' => r = .int .i64 (if st.isNone then 5 else 0) ∧ V' = V := by
  refine f28_x ?_
  unfold f28_n
  obtain ⟨s, e, bs, h1, _, _, h4⟩ := h
  refine br_intro (fun h => absurd h (by simp)) fun _ => ⟨_, rfl, _, h1.c1, ?_, rfl⟩
  rcases h4 with ⟨rfl, rfl⟩ | ⟨rfl, rfl⟩ <;> rfl
theorem left_ok {p : Nat} {bs : List UInt8} {V : View} (h : Rd V p (some bs)) : CallV Try.prog 29 ⟨[.pointer (some ⟨p, 0, none⟩)]⟩ V fun r V' => r = .int .i64 bs.length ∧ V' = V := by
  refine f29_x ?_
  unfold f29_n
  obtain ⟨s, e, bs', h1, h2, _, h4⟩ := h
  refine br_intro (fun h => absurd h (by simp)) fun _ => ⟨_, rfl, s, h1.c0, ?_, rfl⟩
  rcases h4 with ⟨h4, rfl⟩ | ⟨h4, _⟩
  · cases h4; rw [h2.n]
  · cases h4
theorem newReader_ok {s : Sl} {l : List UInt8} {V : View} (h : SlR V s l) (hl : l.length ≤ 140737488350000) : CallV Try.prog 26 ⟨[.slice s.a s.n s.c]⟩ V fun r V' => ∃ p, r = .pointer (some ⟨p, 0, none⟩) ∧ Rd V' p (some l) ∧ V.Le (V'.hide p) := by
  refine f26_x ?_
  unfold f26_n
  refine (clone8_ok h (by omega)).mono ?_
  rintro r V1 ⟨x, rfl, hx⟩
  refine ⟨x, rfl, fun b hb => ⟨b, rfl, ?_, ?_⟩⟩
  · refine ⟨x, 0, l, ⟨_, View.see_put_same _ _ _⟩, ?_, hl, .inl ⟨rfl, rfl⟩⟩
    refine hx.slR.mono ⟨Nat.le_max_left _ _, fun i o ho => ?_, rfl⟩
    have hne : i ≠ b := fun e => by rw [e, hb] at ho; cases ho
    show (if i = b then none else View.see (V1.put b _) i) = some o
    rw [if_neg hne, View.see_put_ne V1 _ hne]; exact ho
  · refine ⟨Nat.le_trans hx.vle.size (Nat.le_max_left _ _), fun i o ho => ?_, hx.vle.out⟩
    have ho1 := hx.vle.see i o ho
    have hne : i ≠ b := fun e => by rw [e, hb] at ho1; cases ho1
    show (if i = b then none else View.see (V1.put b _) i) = some o
    rw [if_neg hne, View.see_put_ne V1 _ hne]; exact ho1
/-- What 'number' answers. -/
def numR (most : Nat) (b : List UInt8) : Int × Nat := match numP most b with
  | none => (0, 0)
  | some (n, r) => (n, b.length - r.length)
theorem numGo_len (most : Nat) : ∀ (g m : Nat) (b : List UInt8) (n : Nat) (r : List UInt8), numGo most g m b = some (n, r) → ∃ k, 1 ≤ k ∧ k ≤ b.length ∧ r = b.drop k
  | 0, m, b, n, r, h => by simp [numGo] at h
  | g + 1, m, [], n, r, h => by simp [numGo] at h
  | g + 1, m, c :: b, n, r, h => by
    rw [numGo_cons] at h
    split at h
    · obtain ⟨k, h1, h2, h3⟩ := numGo_len most g _ b n r h
      exact ⟨k + 1, by omega, by simp; omega, by rw [h3]; rfl⟩
    · split at h
      · cases h
      · cases h; exact ⟨1, by omega, by simp, rfl⟩
theorem numP_len {most : Nat} {b : List UInt8} {n : Nat} {r : List UInt8} (h : numP most b = some (n, r)) : ∃ k, 1 ≤ k ∧ k ≤ b.length ∧ r = b.drop k := by
  unfold numP at h
  split at h
  · cases h
  · split at h
    · cases h
    · exact numGo_len most 6 0 _ n r h
theorem numP_le {most : Nat} {b : List UInt8} {n : Nat} {r : List UInt8} (h : numP most b = some (n, r)) : n ≤ most := (numL_numP h).1
theorem number_ok {s : Sl} {l : List UInt8} {most : Nat} {V : View} (h : SlR V s l) (_hm : most ≤ 1099511627776) : CallV Try.prog 77 ⟨[.slice s.a s.n s.c, .int .i64 most]⟩ V fun r V' => r = .tuple ⟨[.int .i64 (numR most l).1, .int .i64 (numR most l).2]⟩ ∧ V' = V := by
  refine f77_x ?_
  unfold f77_n
  have hn := h.n; have hc := h.c
  have e1 : (if (6 : Int) < (s.n : Int) then (6 : Int) else (s.n : Int)) = ((min 6 l.length : Nat) : Int) := by rw [hn]; split <;> omega
  have e3 : (if s.c = 0 then s.a else Option.map (fun (x : Addr) => x.add 0) s.a) = s.a := by rw [map_add_zero]; simp
  rw [e1, e3]
  simp only [Int.toNat_natCast, Nat.sub_zero]
  refine ⟨by omega, by omega, by omega, ?_⟩
  refine loop2 (k := .int .i64) (l := .int .i64) (fun (x : Int) (i : Int) V' => V' = V ∧ ∃ m k : Nat, x = m ∧ i = k ∧ k ≤ min 6 l.length ∧ m < 128 ^ k ∧ (k = 0 ∨ numP most l = numGo most (6 - k) m (l.drop k))) (fun _ (i : Int) _ => 7 - i.toNat) ⟨rfl, 0, 0, rfl, rfl, by omega, by decide, .inl rfl⟩ ?_
  rintro (x : Int) (i : Int) V' ⟨rfl, m, k, rfl, rfl, hk, hmk, hnum⟩
  have hpow : (128 : Nat) ^ k ≤ 4398046511104 := Nat.le_trans (Nat.pow_le_pow_right (by decide) (show k ≤ 6 by omega)) (by decide)
  refine br_intro (fun hlt => ?_) (fun hge => ?_)
  · have hlt : k < min 6 l.length := by simpa using hlt
    obtain ⟨ad, hx, ha, hcell⟩ := h.u8 (x := (k : Int)) (by omega) (by omega)
    refine ⟨by omega, by omega, ad, ha, _, hcell, ?_⟩
    have hx' : k < l.length := by omega
    have e2 : l[((k : Int)).toNat] = l[k] := by congr 1
    rw [e2]
    have hdrop : l.drop k = l[k] :: l.drop (k + 1) := (List.getElem_cons_drop (h := hx')).symm
    generalize l[k] = c at *
    have hc256 : c.toNat < 256 := c.toNat_lt
    refine br_intro (fun hb => ⟨?_, rfl⟩) (fun hb => ?_)
    · have hb2 : k = 0 ∧ c.toNat = 128 := by simp at hb; omega
      obtain ⟨rfl, hb2⟩ := hb2
      have : numP most l = none := by
        rw [List.drop_zero] at hdrop
        rw [hdrop]
        unfold numP
        simp only
        rw [if_pos hb2]
      unfold numR
      rw [this]
      rfl
    · have hstep : numP most l = if 128 ≤ c.toNat then numGo most (6 - (k + 1)) (m * 128 + c.toNat % 128) (l.drop (k + 1)) else if most < m * 128 + c.toNat % 128 then none else some (m * 128 + c.toNat % 128, l.drop (k + 1)) := by
        have h6 : 6 - k = (6 - (k + 1)) + 1 := by omega
        rcases hnum with rfl | hnum
        · have hne : c.toNat ≠ 128 := fun e => by simp [e] at hb
          have hm0 : m = 0 := by simpa using hmk
          subst hm0
          rw [List.drop_zero] at hdrop
          have : numP most l = numGo most 6 0 l := by
            rw [hdrop]
            unfold numP
            simp only
            rw [if_neg hne]
          rw [this]
          conv => lhs; rw [hdrop]
          exact numGo_cons most 5 0 c _
        · rw [hnum, hdrop, h6, numGo_cons]
      have etm : Int.tmod (c.toNat : Int) 128 = ((c.toNat % 128 : Nat) : Int) := by rw [Int.tmod_eq_emod_of_nonneg (by omega)]; omega
      rw [etm]
      refine ⟨inI64 (by omega) (by omega), inI64 (by omega) (by omega), by decide, inI64 (by omega) (by omega), br_intro (fun h128 => ?_) (fun h128 => ?_)⟩
      · have h128 : 128 ≤ c.toNat := by have := of_decide_eq_true h128; omega
        rw [if_pos h128] at hstep
        refine ⟨inI64 (by omega) (by omega), ⟨rfl, m * 128 + c.toNat % 128, k + 1, by omega, by omega, by omega, by rw [Nat.pow_succ]; omega, .inr hstep⟩, by omega⟩
      · have h128 : ¬ 128 ≤ c.toNat := by have := of_decide_eq_false h128; omega
        rw [if_neg h128] at hstep
        refine br_intro (fun hgt => ⟨?_, rfl⟩) (fun hgt => ⟨inI64 (by omega) (by omega), ?_, rfl⟩)
        · rw [if_pos (by simp at hgt; omega)] at hstep
          unfold numR
          rw [hstep]
          rfl
        · rw [if_neg (by simp at hgt; omega)] at hstep
          unfold numR
          rw [hstep]
          simp only [List.length_drop]
          have e4 : l.length - (l.length - (k + 1)) = k + 1 := by omega
          rw [e4]
          congr 2
  · have hge : ¬ k < min 6 l.length := by simpa using hge
    refine ⟨?_, rfl⟩
    have : numP most l = none := by
      rcases hnum with rfl | hnum
      · have : l = [] := List.eq_nil_of_length_eq_zero (by omega)
        subst this; rfl
      · rw [hnum]
        by_cases h6 : k = 6
        · subst h6; simp [numGo]
        · have : l.drop k = [] := List.drop_of_length_le (by omega)
          rw [this]
          cases 6 - k <;> rfl
    unfold numR
    rw [this]
    rfl
/-- A reader's number. -/
def rdN (st : Option (List UInt8)) (most : Nat) : Int × Option (List UInt8) := match st with
  | none => (0, none)
  | some b => match numP most b with
    | none => (0, none)
    | some (n, r) => (n, some r)
def rdT (st : Option (List UInt8)) (most : Nat) : List UInt8 × Option (List UInt8) := match st with
  | none => ([], none)
  | some b => match textP most b with
    | none => ([], none)
    | some (t, r) => (t, some r)
theorem rdN_range (st : Option (List UInt8)) (most : Nat) : 0 ≤ (rdN st most).1 ∧ (rdN st most).1 ≤ most := by
  unfold rdN
  split
  · exact ⟨by simp, by simp⟩
  · split
    · exact ⟨by simp, by simp⟩
    · rename_i h; have := numP_le h; exact ⟨by simp, by simpa using this⟩
theorem sub_from {V : View} {s : Sl} {l : List UInt8} (h : SlR V s l) {k : Nat} (hk : k ≤ l.length) : SlR V ⟨if s.c = k then s.a else Option.map (fun (x : Addr) => x.add (k * 1)) s.a, s.n - k, s.c - k⟩ (l.drop k) := by
  have := h.sub (i := k) (j := l.length) hk (Nat.le_refl _)
  rw [List.take_length] at this
  rw [h.n]
  exact this
theorem rdNumber_ok {p : Nat} {st : Option (List UInt8)} {most : Nat} {V : View} (h : Rd V p st) (hm : most ≤ 1099511627776) : CallV Try.prog 59 ⟨[.pointer (some ⟨p, 0, none⟩), .int .i64 most]⟩ V fun r V' => r = .int .i64 (rdN st most).1 ∧ Rd V' p (rdN st most).2 ∧ (V.hide p).Le (V'.hide p) := by
  refine f59_x ?_
  unfold f59_n
  refine (off_ok h).mono ?_
  rintro r V' ⟨rfl, rfl⟩
  refine ⟨_, rfl, ?_⟩
  obtain ⟨s, e, bs, h1, h2, h3, h4⟩ := h
  rcases h4 with ⟨rfl, rfl⟩ | ⟨rfl, rfl⟩
  · refine br_intro (fun h => absurd h (by simp)) fun _ => ?_
    refine ⟨_, rfl, s, h1.c0, (number_ok (h2.mono (View.hide_le _ _)) hm).mono ?_⟩
    rintro r V1 ⟨rfl, rfl⟩
    refine ⟨_, _, rfl, ?_⟩
    have hn := h2.n; have hc := h2.c
    cases hp : numP most bs with
    | none =>
      have hR : numR most bs = (0, 0) := by unfold numR; rw [hp]
      have hD : rdN (some bs) most = (0, none) := by simp only [rdN, hp]
      rw [hR, hD]
      obtain ⟨k1, k2, k3⟩ := h1.set1 5
      refine joinP_cut (fun _ V2 => RdC V2 p s 5 ∧ (V1.hide p).Le (V2.hide p)) (br_intro (fun _ => ⟨_, rfl, k1, k2, k3⟩) (fun h => absurd h (by decide))) ?_
      rintro ⟨⟩ V2 ⟨j1, j2⟩
      obtain ⟨m1, m2, m3⟩ := j1.set0 ⟨if s.c = 0 then s.a else Option.map (fun (x : Addr) => x.add (0 * 1)) s.a, s.n - 0, s.c - 0⟩
      refine ⟨_, rfl, s, j1.c0, by omega, by omega, by omega, _, rfl, m1, rfl, ⟨_, 5, bs, m2, ?_, h3, .inr ⟨rfl, rfl⟩⟩, j2.trans m3⟩
      have := (sub_from h2 (Nat.zero_le _)).mono (j2.trans m3)
      rw [List.drop_zero] at this
      exact this
    | some q =>
      obtain ⟨n, r⟩ := q
      obtain ⟨k, k1, k2, rfl⟩ := numP_len hp
      have hk : bs.length - (bs.drop k).length = k := by rw [List.length_drop]; omega
      have hR : numR most bs = ((n : Int), k) := by unfold numR; rw [hp]; simp only; rw [hk]
      have hD : rdN (some bs) most = ((n : Int), some (bs.drop k)) := by simp only [rdN, hp]
      rw [hR, hD]
      refine joinP_cut (fun _ V2 => V2 = V1) (br_intro (fun h => absurd h (by simp; omega)) (fun _ => rfl)) ?_
      rintro ⟨⟩ V2 rfl
      obtain ⟨m1, m2, m3⟩ := h1.set0 ⟨if s.c = k then s.a else Option.map (fun (x : Addr) => x.add (k * 1)) s.a, s.n - k, s.c - k⟩
      refine ⟨_, rfl, s, h1.c0, by omega, by omega, by omega, _, rfl, m1, rfl, ⟨_, 0, bs.drop k, m2, (sub_from h2 k2).mono m3, by simp; omega, .inl ⟨rfl, rfl⟩⟩, m3⟩
  · refine br_intro (fun _ => ⟨rfl, ⟨s, 5, bs, h1, h2, h3, .inr ⟨rfl, rfl⟩⟩, View.Le.refl _⟩) (fun h => absurd h (by simp))
/-- A call that does not need block p leaves it as it was. -/
theorem CallV.beside {P : Program} {f : FuncId} {args : Array Value} {V : View} {p : Nat} {K : Value → View → Prop} {o : Obj} (h : CallV P f args (V.hide p) K) (ho : V.see p = some o) :
    CallV P f args V fun r V' => ∃ U', K r U' ∧ U'.Le (V'.hide p) ∧ V'.see p = some o := by
  refine (CallV.frame (View.hide_le V p) h).mono ?_
  rintro r V' ⟨U', hk, hle, hrest⟩
  have hp : (V.hide p).see p = none := by simp [View.hide]
  obtain ⟨h1, h2⟩ := hrest p o hp ho
  refine ⟨U', hk, ⟨hle.size, fun i x hx => ?_, hle.out⟩, h1⟩
  have hne : i ≠ p := fun e => by rw [e, h2] at hx; cases hx
  show (if i = p then none else View.see V' i) = some x
  rw [if_neg hne]; exact hle.see i x hx
theorem rdText_ok {p : Nat} {st : Option (List UInt8)} {most : Nat} {V : View} (h : Rd V p st) (hm : most ≤ 1099511627776) : CallV Try.prog 60 ⟨[.pointer (some ⟨p, 0, none⟩), .int .i64 most]⟩ V fun r V' =>
    ∃ x : Sl, r = .slice x.a x.n x.c ∧ SlR (V'.hide p) x (rdT st most).1 ∧ Rd V' p (rdT st most).2 ∧ (V.hide p).Le (V'.hide p) := by
  refine f60_x ?_
  unfold f60_n
  refine (off_ok h).mono ?_
  rintro r V' ⟨rfl, rfl⟩
  refine ⟨_, rfl, ?_⟩
  obtain ⟨s, e, bs, h1, h2, h3, h4⟩ := h
  rcases h4 with ⟨rfl, rfl⟩ | ⟨rfl, rfl⟩
  · refine br_intro (fun h => absurd h (by simp)) fun _ => ?_
    refine ⟨_, rfl, s, h1.c0, (number_ok (h2.mono (View.hide_le _ _)) hm).mono ?_⟩
    rintro r V1 ⟨rfl, rfl⟩
    refine ⟨_, _, rfl, ?_⟩
    have hn := h2.n; have hc := h2.c
    have bad : rdT (some bs) most = ([], none) → ∃ (a : Addr), (some ⟨p, 0, none⟩ : Option Addr) = some a ∧ canSet V1 (Addr.add a 1) 1 ∧
        ∃ x : Sl, Value.slice none 0 0 = .slice x.a x.n x.c ∧ SlR ((V1.sets (Addr.add a 1) [.int .i64 5]).hide p) x (rdT (some bs) most).1 ∧ Rd (V1.sets (Addr.add a 1) [.int .i64 5]) p (rdT (some bs) most).2 ∧ (V1.hide p).Le ((V1.sets (Addr.add a 1) [.int .i64 5]).hide p) := by
      intro hb
      rw [hb]
      obtain ⟨k1, k2, k3⟩ := h1.set1 5
      exact ⟨_, rfl, k1, ⟨none, 0, 0⟩, rfl, SlR.nil _ _ _, ⟨s, 5, bs, k2, h2.mono k3, h3, .inr ⟨rfl, rfl⟩⟩, k3⟩
    cases hp : numP most bs with
    | none =>
      have hb : rdT (some bs) most = ([], none) := by simp only [rdT, textP, hp]
      have hR : numR most bs = (0, 0) := by unfold numR; rw [hp]
      rw [hR]
      refine joinP_cut (fun b V2 => b.1 = true ∧ V2 = V1) (br_intro (fun _ => ⟨rfl, rfl⟩) (fun h => absurd h (by decide))) ?_
      rintro ⟨b, ⟨⟩⟩ V2 ⟨hb1, hV⟩
      simp only at hb1 hV
      subst hb1 hV
      simp only [unc]
      exact br_intro (fun _ => bad hb) (fun h => absurd h (by decide))
    | some q =>
      obtain ⟨n, r⟩ := q
      obtain ⟨k, k1, k2, rfl⟩ := numP_len hp
      have hk : bs.length - (bs.drop k).length = k := by rw [List.length_drop]; omega
      have hnm := numP_le hp
      have hR : numR most bs = ((n : Int), k) := by unfold numR; rw [hp]; simp only; rw [hk]
      rw [hR]
      refine joinP_cut (fun b V2 => b.1 = decide (bs.length - k < n) ∧ V2 = V1) (br_intro (fun h => absurd h (by simp; omega)) (fun _ => ⟨_, rfl, s, h1.c0, inI64 (by omega) (by omega), ?_, rfl⟩)) ?_
      · show decide (((s.n : Int) - k) < n) = decide (bs.length - k < n)
        rw [hn]
        congr 1
        apply propext
        omega
      rintro ⟨b, ⟨⟩⟩ V2 ⟨hb1, hV⟩
      simp only at hb1 hV
      subst hb1 hV
      simp only [unc]
      refine br_intro (fun hlt => bad ?_) (fun hge => ?_)
      · have hlt : bs.length - k < n := by simpa using hlt
        simp only [rdT, textP, hp]
        rw [if_pos (by simp; omega)]
      · have hge : ¬ bs.length - k < n := by simpa using hge
        have hgood : rdT (some bs) most = ((bs.drop k).take n, some ((bs.drop k).drop n)) := by
          simp only [rdT, textP, hp]
          rw [if_neg (by simp; omega)]
        rw [hgood]
        have hsub := h2.sub (i := k) (j := k + n) (by omega) (by omega)
        have e1 : ((k : Int) + (n : Int)).toNat - ((k : Int)).toNat = (k + n) - k := by omega
        refine ⟨_, rfl, s, h1.c0, inI64 (by omega) (by omega), by omega, by omega, by omega, ?_⟩
        rw [e1]
        have hcl := clone8_ok hsub (by simp; omega)
        obtain ⟨ty, hsee⟩ := h1
        refine (CallV.beside hcl hsee).mono ?_
        rintro r V3 ⟨U, ⟨x, rfl, hx⟩, hU, hsee3⟩
        have hU2 : (V2.hide p).Le (V3.hide p) := hx.vle.trans hU
        obtain ⟨m1, m2, m3⟩ := RdC.set0 (V := V3) (p := p) (s := s) (e := 0) ⟨ty, hsee3⟩ ⟨if s.c = k + n then s.a else Option.map (fun (x : Addr) => x.add ((k + n) * 1)) s.a, s.n - (k + n), s.c - (k + n)⟩
        have e2 : ((k : Int) + (n : Int)).toNat = k + n := by omega
        rw [e2]
        refine ⟨x, rfl, _, rfl, s, RdC.c0 ⟨ty, hsee3⟩, inI64 (by omega) (by omega), by omega, by omega, by omega, _, rfl, m1, x, rfl, ?_, ⟨_, 0, (bs.drop k).drop n, m2, ?_, by simp; omega, .inl ⟨rfl, rfl⟩⟩, hU2.trans m3⟩
        · have h5 := (hx.slR.mono hU).mono m3
          rw [List.drop_take, show k + n - k = n by omega] at h5
          exact h5
        · have h6 := (sub_from h2 (k := k + n) (by omega)).mono (hU2.trans m3)
          rw [List.drop_drop]
          exact h6
  · refine br_intro (fun _ => ⟨⟨none, 0, 0⟩, rfl, SlR.nil _ _ _, ⟨s, 5, bs, h1, h2, h3, .inr ⟨rfl, rfl⟩⟩, View.Le.refl _⟩) (fun h => absurd h (by simp))
end Go.Proofs.Ytpalkdmngckcoaa
