/- Contracts of package path. -/
import Derived.Test.YtpmoliahcgfkgaaDoorLib
import Derived.Test.YtpmoliahcgfkgaaDoorPa
namespace Go.Proofs.YtpmoliahcgfkgaaDoor
open Go
theorem inI64 {n : Int} (h1 : -9223372036854775808 ≤ n) (h2 : n ≤ 9223372036854775807) : inI .i64 n := ⟨h1, h2⟩
/-- The place of the first of which p holds; -1: there is none. -/
def idxI {α : Type} (p : α → Bool) : List α → Int
  | [] => -1
  | x :: l => if p x then 0 else match idxI p l with
    | .ofNat n => n + 1
    | .negSucc _ => -1
theorem idxI_range {α : Type} (p : α → Bool) : ∀ l : List α, idxI p l = -1 ∧ l.any p = false ∨ (0 ≤ idxI p l ∧ idxI p l < l.length ∧ l.any p = true)
  | [] => .inl ⟨rfl, rfl⟩
  | x :: l => by
    unfold idxI
    by_cases h : p x = true
    · right; rw [if_pos h]; simp [h]
    · rw [if_neg h]
      rcases idxI_range p l with ⟨h1, h2⟩ | ⟨h1, h2, h3⟩
      · left; rw [h1]; simp [h, h2]; rfl
      · right
        cases hc : idxI p l with
        | ofNat n => rw [hc] at h2; simp only [Int.ofNat_eq_natCast] at h2; simp [h3]; omega
        | negSucc n => rw [hc] at h1; omega
theorem idxI_first {α : Type} (p : α → Bool) : ∀ (l : List α) (i : Nat) (h : i < l.length), (∀ j (hj : j < i), p (l[j]'(by omega)) = false) → p l[i] = true → idxI p l = i
  | x :: l, 0, _, _, h2 => by unfold idxI; rw [if_pos (by simpa using h2)]; rfl
  | x :: l, i + 1, h, h1, h2 => by
    have h0 := h1 0 (by omega)
    simp only [List.getElem_cons_zero] at h0
    unfold idxI
    rw [if_neg (by rw [h0]; simp), idxI_first p l i (by simpa using h) (fun j hj => by have := h1 (j + 1) (by omega); simpa using this) (by simpa using h2)]
    simp
theorem idxI_none {α : Type} (p : α → Bool) : ∀ (l : List α), (∀ x ∈ l, p x = false) → idxI p l = -1
  | [], _ => rfl
  | x :: l, h => by
    unfold idxI
    rw [if_neg (by rw [h x (by simp)]; simp), idxI_none p l (fun y hy => h y (by simp [hy]))]
    rfl
theorem pathMay_ok {s : ByteArray} {V : View} (hs : s.size < 2 ^ 62) : CallV Tryd.prog 8 ⟨[.string s]⟩ V fun r V' => r = .bool (mayB s) ∧ V' = V := by
  refine f8_x ?_
  unfold f8_n
  refine loop1 (k := .int .i64) (fun (x : Int) V' => V' = V ∧ 0 ≤ x ∧ x ≤ s.size ∧ (s.data.toList.take x.toNat).all (fun b => okB b.toNat) = true) (fun (x : Int) _ => s.size - x.toNat) ⟨rfl, by omega, by omega, rfl⟩ ?_
  rintro (x : Int) V' ⟨rfl, h0, h1, h2⟩
  have hsz : s.data.toList.length = s.size := by simp
  refine br_intro (fun hlt => ?_) (fun hge => ?_)
  · have hlt : x < s.size := by simpa using hlt
    have hx : x.toNat < s.data.toList.length := by omega
    have hg : s.data.toList.getD x.toNat 0 = s.data.toList[x.toNat] := by rw [List.getD_eq_getElem?_getD, List.getElem?_eq_getElem hx]; rfl
    refine ⟨h0, hlt, ?_⟩
    rw [hg]
    generalize hb : s.data.toList[x.toNat] = b
    refine br_intro (fun hn => ⟨?_, rfl⟩) (fun hn => ⟨inI64 (by omega) (by omega), ⟨rfl, by omega, by omega, ?_⟩, by omega⟩)
    · have hk : okB b.toNat = false := by
        unfold okB
        simp at hn ⊢
        omega
      unfold mayB
      have : (s.data.toList.all fun b => okB b.toNat) = false := by
        rw [List.all_eq_false]
        exact ⟨b, hb ▸ List.getElem_mem hx, by simp [hk]⟩
      rw [show bl s = s.data.toList from rfl, this]; rfl
    · have hk : okB b.toNat = true := by
        unfold okB
        simp at hn ⊢
        omega
      rw [show (x + 1).toNat = x.toNat + 1 by omega, List.take_add_one, List.all_append, h2, List.getElem?_eq_getElem hx, hb]
      simp [hk]
  · have hge : ¬ x < s.size := by simpa using hge
    rw [List.take_of_length_le (by omega)] at h2
    refine ⟨?_, rfl⟩
    unfold mayB
    rw [show bl s = s.data.toList from rfl, h2]
    congr 1
    rw [Bool.eq_iff_iff]
    simp
    omega
theorem splitC_ok {s : ByteArray} {V : View} (hs : s.size < 2 ^ 62) : CallV Tryd.prog 15 ⟨[.string s]⟩ V fun r V' => r = .bool (!mayB s) ∧ V' = V := by
  refine f15_x ?_
  unfold f15_n
  refine (pathMay_ok hs).mono ?_
  rintro r V' ⟨rfl, rfl⟩
  exact ⟨_, rfl, rfl, rfl⟩
theorem indexFuncS_ok {p : ByteArray → Bool} {s : Sl} {l : List ByteArray} {V : View} {g : FuncId} {xs ys : List Value} (h : SlR V s l)
    (hp : ∀ b ∈ l, CallV Tryd.prog g ⟨xs ++ [.string b] ++ ys⟩ V fun r V' => r = .bool (p b) ∧ V' = V) :
    CallV Tryd.prog 20 ⟨[.slice s.a s.n s.c, .func (.func g) ⟨xs⟩ ⟨ys⟩]⟩ V fun r V' => r = .int .i64 (idxI p l) ∧ V' = V := by
  refine f20_x ?_
  unfold f20_n
  have hn := h.n; have hlim := h.lim
  refine loop1 (k := .int .i64) (fun (x : Int) V' => V' = V ∧ 0 ≤ x ∧ x ≤ s.n ∧ ∀ j (hj : j < l.length), (j : Int) < x → p l[j] = false) (fun (x : Int) _ => s.n - x.toNat) ⟨rfl, by omega, by omega, fun j _ hj => by omega⟩ ?_
  rintro (x : Int) V' ⟨rfl, h0, h1, h2⟩
  refine br_intro (fun hlt => ?_) (fun hge => ?_)
  · have hlt : x < s.n := by simpa using hlt
    obtain ⟨ad, hx, ha, hc, _⟩ := h.str h0 hlt
    refine ⟨h0, hlt, ad, ha, _, hc, (hp _ (List.getElem_mem hx)).mono ?_⟩
    rintro r V1 ⟨rfl, rfl⟩
    refine ⟨_, rfl, br_intro (fun hb => ⟨?_, rfl⟩) (fun hb => ⟨inI64 (by omega) (by omega), ⟨rfl, by omega, by omega, fun j hj hjx => ?_⟩, by omega⟩)⟩
    · rw [idxI_first p l x.toNat hx (fun j hj => h2 j (by omega) (by omega)) hb]
      congr 1; omega
    · by_cases e : (j : Int) < x
      · exact h2 j hj e
      · have : j = x.toNat := by omega
        subst this; exact hb
  · have hge : ¬ x < s.n := by simpa using hge
    refine ⟨?_, rfl⟩
    rw [idxI_none p l fun y hy => ?_]
    obtain ⟨j, hj, rfl⟩ := List.getElem_of_mem hy
    exact h2 j hj (by omega)
theorem containsFuncS_ok {p : ByteArray → Bool} {s : Sl} {l : List ByteArray} {V : View} {g : FuncId} {xs ys : List Value} (h : SlR V s l)
    (hp : ∀ b ∈ l, CallV Tryd.prog g ⟨xs ++ [.string b] ++ ys⟩ V fun r V' => r = .bool (p b) ∧ V' = V) :
    CallV Tryd.prog 14 ⟨[.slice s.a s.n s.c, .func (.func g) ⟨xs⟩ ⟨ys⟩]⟩ V fun r V' => r = .bool (l.any p) ∧ V' = V := by
  refine f14_x ?_
  unfold f14_n
  refine (indexFuncS_ok h hp).mono ?_
  rintro r V' ⟨rfl, rfl⟩
  refine ⟨_, rfl, ?_, rfl⟩
  congr 1
  rcases idxI_range p l with ⟨h1, h2⟩ | ⟨h1, h2, h3⟩
  · rw [h1, h2]; rfl
  · rw [h3]; simpa using h1
theorem equalS_ok {s t : Sl} {l m : List ByteArray} {V : View} (h : SlR V s l) (k : SlR V t m) : CallV Tryd.prog 17 ⟨[.slice s.a s.n s.c, .slice t.a t.n t.c]⟩ V fun r V' => r = .bool (decide (l = m)) ∧ V' = V := by
  refine f17_x ?_
  unfold f17_n
  have hn := h.n; have hlim := h.lim; have kn := k.n
  refine br_intro (fun hne => ⟨?_, rfl⟩) (fun heq => ?_)
  · have hne : ¬ (s.n : Int) = t.n := by simpa using hne
    rw [decide_eq_false]
    intro e; subst e; omega
  have heq : (s.n : Int) = t.n := by simpa using heq
  refine loop1 (k := .int .i64) (fun (x : Int) V' => V' = V ∧ 0 ≤ x ∧ x ≤ s.n ∧ l.take x.toNat = m.take x.toNat) (fun (x : Int) _ => s.n - x.toNat) ⟨rfl, by omega, by omega, rfl⟩ ?_
  rintro (x : Int) V' ⟨rfl, h0, h1, h2⟩
  refine br_intro (fun hlt => ?_) (fun hge => ?_)
  · have hlt : x < s.n := by simpa using hlt
    obtain ⟨ad, hx, ha, hc, _⟩ := h.str h0 hlt
    obtain ⟨ad', hx', ha', hc', _⟩ := k.str h0 (by omega)
    refine ⟨trivial, V', View.Le.refl _, h0, hlt, ad, ha, _, hc, h0, by omega, ad', ha', _, hc', br_intro (fun hb => ⟨?_, rfl⟩) (fun hb => ⟨inI64 (by omega) (by omega), ⟨rfl, by omega, by omega, ?_⟩, by omega⟩)⟩
    · have hb : ¬ l[x.toNat] = m[x.toNat] := by simpa using hb
      rw [decide_eq_false]
      intro e; subst e; exact hb rfl
    · have hb : l[x.toNat] = m[x.toNat] := by simpa using hb
      rw [show (x + 1).toNat = x.toNat + 1 by omega, List.take_add_one, List.take_add_one, h2, List.getElem?_eq_getElem hx, List.getElem?_eq_getElem hx', hb]
  · have hge : ¬ x < s.n := by simpa using hge
    rw [List.take_of_length_le (by omega), List.take_of_length_le (by omega)] at h2
    exact ⟨by rw [h2]; simp, rfl⟩
/-- What path.Split answers. -/
def splitR (V : View) (o : Option (List ByteArray)) (r : Value) : Prop :=
  ∃ (x : Sl) (e : Int), r = .tuple ⟨[.slice x.a x.n x.c, .int .i64 e]⟩ ∧ match o with
    | none => e = 7 ∧ x = ⟨none, 0, 0⟩
    | some l => e = 0 ∧ SlR V x l
theorem pathSplit_ok {s : ByteArray} {V : View} (hs : s.size < 2 ^ 62) (hg : Glo V) : CallV Tryd.prog 7 ⟨[.string s]⟩ V fun r V' => splitR V' (splitP s) r ∧ V.Le V' := by
  refine f7_x ?_
  unfold f7_n
  refine (cutPrefix_ok (s := s)).mono ?_
  rintro r V' ⟨rfl, rfl⟩
  refine ⟨_, _, rfl, ?_⟩
  have hno : (∀ e : splitP s = none, splitR V' (splitP s) (.tuple ⟨[.slice none 0 0, .int .i64 7]⟩) ∧ V'.Le V') := fun e => ⟨⟨⟨none, 0, 0⟩, 7, rfl, by rw [e]; exact ⟨rfl, rfl⟩⟩, View.Le.refl _⟩
  refine br_intro (fun h => hno ?_) (fun h => ?_)
  · unfold splitP
    split
    · rfl
    · rename_i c r hb
      rw [if_neg]
      rintro ⟨rfl, hle⟩
      rw [hb] at h
      simp [Lib.hasPrefix] at h
      omega
  · cases hb : bl s with
    | nil => rw [hb] at h; simp [Lib.hasPrefix] at h
    | cons c t =>
      rw [hb] at h
      have hc : c = 47 ∧ s.size ≤ 60 := by
        simp [Lib.hasPrefix, List.isPrefixOf] at h
        exact ⟨h.1.symm, by omega⟩
      obtain ⟨rfl, h60⟩ := hc
      have htr : Lib.trimPrefix (47 :: t) [47] = t := by simp [Lib.trimPrefix, Lib.hasPrefix, List.isPrefixOf]
      rw [htr]
      have hlen : (ba t).size ≤ 60 := by rw [← bl_len, hb] at h60; rw [ba_size]; simp at h60; omega
      refine br_intro (fun h => ?_) (fun h => ?_)
      · have ht : t = [] := by
          have : ba t = ByteArray.mk #[] := by simpa using h
          have := congrArg bl this
          simpa using this
        refine ⟨⟨⟨none, 0, 0⟩, 0, rfl, ?_⟩, View.Le.refl _⟩
        unfold splitP
        rw [hb]
        simp only
        rw [if_pos ⟨trivial, h60⟩, if_pos ht]
        exact ⟨trivial, SlR.nil _ _ _⟩
      · have ht : t ≠ [] := fun e => by
          subst e
          simp [ba] at h
        refine (strSplit_ok (by omega) hg).mono ?_
        rintro r V1 ⟨x, rfl, hle, hx⟩
        refine ⟨_, rfl, (containsFuncS_ok (p := fun b => !mayB b) hx fun b hb => ?_).mono ?_⟩
        · have hbs : b.size < 2 ^ 62 := by
            obtain ⟨j, hj, rfl⟩ := List.getElem_of_mem hb
            obtain ⟨_, _, _, _, _, h⟩ := hx.get j hj
            omega
          exact splitC_ok hbs
        rintro r V2 ⟨rfl, rfl⟩
        have hsp : splitP s = if ((splitS t).map ba).all mayB then some ((splitS t).map ba) else none := by
          unfold splitP
          rw [hb]
          simp only
          rw [if_pos ⟨trivial, h60⟩, if_neg ht]
        have hall : (((splitS (bl (ba t))).map ba).any fun b => !mayB b) = !((splitS t).map ba).all mayB := by
          rw [List.not_all_eq_any_not]; rfl
        refine ⟨_, rfl, br_intro (fun h => ?_) (fun h => ?_)⟩
        · rw [hall] at h
          refine ⟨⟨⟨none, 0, 0⟩, 7, rfl, ?_⟩, hle⟩
          rw [hsp, if_neg (by simpa using h)]
          exact ⟨rfl, rfl⟩
        · rw [hall] at h
          refine ⟨⟨x, 0, rfl, ?_⟩, hle⟩
          rw [hsp, if_pos (by simpa using h)]
          exact ⟨rfl, hx⟩
theorem pathJoin_ok {x : Sl} {l : List ByteArray} {V : View} (h : SlR V x l) (hl : (Lib.join (l.map bl) [47]).length ≤ 140737488355328) (hg : Glo V) : CallV Tryd.prog 9 ⟨[.slice x.a x.n x.c]⟩ V fun r V' => r = .string (joinP1 l) ∧ V.Le V' := by
  refine f9_x ?_
  unfold f9_n
  refine (strJoin_ok h hl).mono ?_
  rintro r V' ⟨rfl, rfl⟩
  refine ⟨_, rfl, by rw [ba_size]; omega, ?_⟩
  have e : ByteArray.mk #[47] ++ ba (Lib.join (l.map bl) [47]) = ba (47 :: Lib.join (l.map bl) [47]) := ba_append [47] _
  rw [e]
  refine (pathSplit_ok (by rw [ba_size]; simp; omega) hg).mono ?_
  rintro r V1 ⟨⟨y, n, rfl, hr⟩, hle⟩
  refine ⟨_, _, rfl, joinP_cut (fun s V2 => s.1 = !decide (splitP (ba (47 :: Lib.join (l.map bl) [47])) = some l) ∧ V'.Le V2) ?_ ?_⟩
  · unfold cur cur
    cases ho : splitP (ba (47 :: Lib.join (l.map bl) [47])) with
    | none =>
      rw [ho] at hr
      obtain ⟨rfl, rfl⟩ := hr
      simp [br, hle]
    | some m =>
      rw [ho] at hr
      obtain ⟨rfl, hy⟩ := hr
      simp only [decide_true, Bool.not_true, br_false]
      refine (equalS_ok hy (h.mono hle)).mono ?_
      rintro r V2 ⟨rfl, rfl⟩
      exact ⟨_, rfl, by simp, hle⟩
  · rintro ⟨b, ⟨⟩⟩ V2 ⟨hb, hle⟩
    simp only at hb
    subst hb
    unfold joinP1 unc unc
    by_cases hs : splitP (ba (47 :: Lib.join (l.map bl) [47])) = some l
    · simp [hs, hle]
    · simp [hs, hle]; rfl
theorem pathLast_ok {s : ByteArray} {V : View} (hs : s.size < 2 ^ 62) (hg : Glo V) : CallV Tryd.prog 11 ⟨[.string s]⟩ V fun r V' => r = .tuple ⟨[.string (lastP s).1, .string (lastP s).2.1, .int .i64 (lastP s).2.2]⟩ ∧ V.Le V' := by
  refine f11_x ?_
  unfold f11_n
  refine (pathSplit_ok hs hg).mono ?_
  rintro r V1 ⟨⟨y, n, rfl, hr⟩, hle⟩
  refine ⟨_, _, rfl, ?_⟩
  unfold lastP
  cases ho : splitP s with
  | none =>
    rw [ho] at hr
    obtain ⟨rfl, rfl⟩ := hr
    simp [hle]; rfl
  | some l =>
    rw [ho] at hr
    obtain ⟨rfl, hy⟩ := hr
    have hn := hy.n; have hlim := hy.lim; have hc := hy.c
    simp only [decide_true, Bool.not_true, br_false]
    refine br_intro (fun h => ?_) (fun h => ?_)
    · have h : (y.n : Int) = 0 := by simpa using h
      have : l = [] := List.eq_nil_of_length_eq_zero (by omega)
      simp [this, hle]; rfl
    · have h : ¬ (y.n : Int) = 0 := by simpa using h
      have hne : l ≠ [] := fun e => by subst e; simp at hn; omega
      obtain ⟨ad, hx, ha, hcell, _⟩ := hy.str (x := (y.n : Int) - 1) (by omega) (by omega)
      refine ⟨inI64 (by omega) (by omega), trivial, V1, View.Le.refl _, by omega, by omega, by omega, by omega, by omega, ad, ha, _, hcell, ?_⟩
      have hsp := splitP_some ho
      have htl := hy.take (j := l.length - 1) (by omega)
      have e1 : ((y.n : Int) - 1).toNat - 0 = l.length - 1 := by omega
      have e2 : l.take (l.length - 1) = l.dropLast := (List.dropLast_eq_take).symm
      have e3 : (if y.c = 0 then y.a else Option.map (fun (x : Addr) => x.add 0) y.a) = y.a := by rw [map_add_zero]; simp
      rw [e1, e3, Nat.sub_zero]
      rw [e2] at htl
      have hjl : (Lib.join (l.dropLast.map bl) [47]).length ≤ 140737488355328 := by
        have h60 : (Lib.join (l.map bl) [47]).length ≤ 60 := by
          have := hsp.2.2
          have := congrArg List.length this
          rw [bl_len] at this
          simp at this
          omega
        have hl2 : l = l.dropLast ++ [l.getLast hne] := (List.dropLast_concat_getLast hne).symm
        by_cases hd : l.dropLast = []
        · rw [hd]; simp [Lib.join_nil]
        · rw [hl2, joinS_snoc _ _ hd] at h60
          simp only [List.length_append, List.length_cons] at h60
          omega
      refine (pathJoin_ok (x := ⟨y.a, l.length - 1, y.c⟩) htl hjl (hg.mono hle)).mono ?_
      rintro r V2 ⟨rfl, hle2⟩
      refine ⟨_, rfl, hle2, ?_, hle.trans hle2⟩
      rw [dif_neg hne]
      have e4 : l[((y.n : Int) - 1).toNat] = l.getLast hne := by
        rw [List.getLast_eq_getElem]
        congr 1 <;> omega
      simp only [e4]
end Go.Proofs.YtpmoliahcgfkgaaDoor
