/- Contracts of package bytes. -/
import Derived.Test.YtpalkdmngckcoaaData
import Derived.Test.YtpalkdmngckcoaaNum
import Derived.Test.YtpalkdmngckcoaaGen
import Derived.Test.YtpalkdmngckcoaaGrow
import Derived.Test.YtpalkdmngckcoaaOb
namespace Go.Proofs.Ytpalkdmngckcoaa
open Go
/-- Bytes as cells. -/
def u8s (l : List UInt8) : List Value := l.map fun b => .int .u8 b.toNat
theorem u8s_append (l m : List UInt8) : u8s (l ++ m) = u8s l ++ u8s m := List.map_append
theorem u8s_len (l : List UInt8) : (u8s l).length = l.length := List.length_map _
theorem u8s_one (l : List UInt8) : (u8s l).all Value.oneCell' = true := by
  rw [List.all_eq_true]
  intro v hv
  obtain ⟨b, _, rfl⟩ := List.mem_map.1 hv
  rfl
theorem u8s_rep {W : View} : ∀ l : List UInt8, repL W (u8s l) l
  | [] => rfl
  | b :: l => ⟨[.int .u8 b.toNat], u8s l, rfl, rfl, u8s_rep l⟩
theorem repL_u8 {W : View} : ∀ {cs : List Value} {l : List UInt8}, repL W cs l → cs = u8s l
  | _, [], h => h
  | _, b :: l, ⟨vs, us, e, h1, h2⟩ => by
    have h1 : vs = [Value.int .u8 b.toNat] := h1
    rw [e, h1, repL_u8 h2]; rfl
theorem SlR.row8 {V : View} {s : Sl} {l : List UInt8} (h : SlR V s l) : rowAt V s.a (s.n * 1) (u8s l) := by
  obtain ⟨cs, h1, h2⟩ := h.row
  rw [repL_u8 h2] at h1
  exact h1
/-- Bytes that a call made: in a row of its own. -/
structure Fresh8 (V V' : View) (x : Sl) (l : List UInt8) : Prop where
  buf : Buf V' x 5 1 (u8s l)
  le : V.Le (V'.minus x)
theorem Fresh8.slR {V V' : View} {x : Sl} {l : List UInt8} (h : Fresh8 V V' x l) : SlR V' x l := h.buf.slR (W := V) (u8s_rep l) (h.le.trans (View.minus_le _ _))
theorem Fresh8.vle {V V' : View} {x : Sl} {l : List UInt8} (h : Fresh8 V V' x l) : V.Le V' := h.le.trans (View.minus_le _ _)
theorem clone8_ok {s : Sl} {l : List UInt8} {V : View} (h : SlR V s l) (hl : l.length ≤ 140737488355328) : CallV Try.prog 58 ⟨[.slice s.a s.n s.c]⟩ V fun r V' => ∃ x : Sl, r = .slice x.a x.n x.c ∧ Fresh8 V V' x l := by
  refine f58_x ?_
  unfold f58_n
  have hn := h.n
  refine br_intro (fun hnil => ?_) (fun _ => ?_)
  · have ha : s.a = none := Option.isNone_iff_eq_none.1 hnil
    have hl0 : l = [] := by
      cases l with
      | nil => rfl
      | cons b l => obtain ⟨ad, vs, h1, _⟩ := h.get 0 (by simp); rw [ha] at h1; cases h1
    subst hl0
    exact ⟨⟨none, 0, 0⟩, rfl, Buf.nil _ _ _, View.Le.refl V⟩
  · intro r hr
    have hfr : V.see r = none := View.see_none_of_ge hr
    refine apV_buf (cs := []) (src := u8s l) (m := s.n) rfl ⟨rfl, Nat.le_refl _, Nat.zero_le _, .inr ⟨r, [], rfl, View.see_put_same _ _ _, rfl, rfl⟩⟩ ?_ (by rw [u8s_len, hn]; omega) (u8s_one l) (by simp; omega) (by simp; omega) ?_
    · exact ⟨rfl, (h.mono (View.put_le hfr)).row8⟩
    · intro x V' hb _ hle
      refine ⟨x, rfl, hb, View.Le.trans ?_ hle⟩
      refine ⟨Nat.le_max_left _ _, fun i o ho => ?_, rfl⟩
      have hne : i ≠ r := fun e => by rw [e, hfr] at ho; cases ho
      show (if i = r then none else View.see (V.put r _) i) = some o
      rw [if_neg hne, View.see_put_ne V _ hne]; exact ho
theorem grow8_ok {n : Int} {V : View} (h0 : 0 ≤ n) (h1 : n ≤ 140737488355328) : CallV Try.prog 84 ⟨[.slice none 0 0, .int .i64 n]⟩ V fun r V' => ∃ x : Sl, r = .slice x.a x.n x.c ∧ Fresh8 V V' x [] := by
  refine f84_x (a0 := ⟨none, 0, 0⟩) ?_
  unfold f84_n
  refine joinP_cut (fun _ V' => V' = V) (br_intro (fun h => absurd h (by simp; omega)) (fun _ => rfl)) ?_
  rintro ⟨⟩ V' rfl
  refine ⟨inI64 (by simp) (by simp), inI64 (by simp; omega) (by simp; omega), joinP_cut (fun s V1 => Fresh8 V' V1 s.1 []) ?_ (fun s V1 h => ⟨s.1, rfl, h⟩)⟩
  refine br_intro (fun _ => ⟨by omega, by simp, by simp, ?_⟩) (fun _ => ⟨Buf.nil _ _ _, View.Le.refl _⟩)
  have e1 : (n - (((0 : Nat) : Int) - ((0 : Nat) : Int))) = n := by simp
  rw [e1]
  refine apV_buf (cs := []) (src := (List.replicate n.toNat [Value.int .u8 0]).flatten) (m := n.toNat) rfl (Buf.nil _ _ _) ⟨h0, rfl, rfl⟩ (by simp) ?_ (by simp; omega) (by simp; omega) ?_
  · rw [List.all_eq_true]
    intro v hv
    obtain ⟨l, hl, hvl⟩ := List.mem_flatten.1 hv
    rw [(List.mem_replicate.1 hl).2] at hvl
    rw [List.mem_singleton.1 hvl]; rfl
  · intro s V1 hb hsn hle
    have hcut := hb.cut (Nat.zero_le s.n)
    have e2 : (if s.c = 0 then s.a else Option.map (fun (x : Addr) => x.add 0) s.a) = s.a := by rw [map_add_zero]; simp
    refine ⟨by omega, by simp, by simp, ?_⟩
    rw [e2]
    exact ⟨by simpa [u8s] using hcut, hle⟩
theorem flat_len8 : ∀ (ls : List (List UInt8)) (i : Nat), (ls.take i).flatten.length ≤ ls.flatten.length
  | [], i => by simp
  | x :: ls, 0 => by simp
  | x :: ls, i + 1 => by
    have := flat_len8 ls i
    simp only [List.take_succ_cons, List.flatten_cons, List.length_append]
    omega
theorem SlR.sl8 {V : View} {s : Sl} {ls : List (List UInt8)} (h : SlR V s ls) {x : Int} (h0 : 0 ≤ x) (h1 : x < s.n) :
    ∃ ad, ∃ y : Sl, ∃ hx : x.toNat < ls.length, s.a = some ad ∧ V.cell? (ad.add (x.toNat * 1)) = some (.slice y.a y.n y.c) ∧ SlR V y ls[x.toNat] := by
  obtain ⟨ad, vs, hx, ha, hc, y, rfl, hy⟩ := h.ld h0 h1
  exact ⟨ad, y, hx, ha, cellsAt_one.1 hc, hy⟩
theorem concat8_ok {s : Sl} {ls : List (List UInt8)} {V : View} (h : SlR V s ls) (hl : ls.flatten.length ≤ 140737488355328) : CallV Try.prog 79 ⟨[.slice s.a s.n s.c]⟩ V fun r V' => ∃ x : Sl, r = .slice x.a x.n x.c ∧ Fresh8 V V' x ls.flatten := by
  refine f79_x ?_
  unfold f79_n
  have hn := h.n; have hlim := h.lim
  refine loop2 (k := .int .i64) (l := .int .i64) (fun (x : Int) (i : Int) V' => V' = V ∧ 0 ≤ i ∧ i ≤ s.n ∧ x = (ls.take i.toNat).flatten.length) (fun _ (i : Int) _ => s.n - i.toNat) ⟨rfl, by omega, by omega, by simp⟩ ?_
  rintro (x : Int) (i : Int) V' ⟨rfl, h0, h1, rfl⟩
  have hle1 := flat_len8 ls i.toNat
  refine br_intro (fun hlt => ?_) (fun hge => ?_)
  · have hlt : i < s.n := by simpa using hlt
    obtain ⟨ad, y, hx, ha, hc, hy⟩ := h.sl8 h0 hlt
    have hyn := hy.n
    have hnext : (ls.take (i + 1).toNat).flatten.length = (ls.take i.toNat).flatten.length + y.n := by
      rw [show (i + 1).toNat = i.toNat + 1 by omega, List.take_add_one, List.getElem?_eq_getElem hx, List.flatten_append]
      simp [hyn]
    have hle2 := flat_len8 ls (i + 1).toNat
    refine ⟨h0, hlt, ad, ha, y, hc, inI64 (by omega) (by omega), joinP_cut (fun _ V2 => V2 = V') (br_intro (fun h => absurd h (by simp; omega)) (fun _ => rfl)) ?_⟩
    rintro ⟨⟩ V2 rfl
    exact ⟨inI64 (by omega) (by omega), ⟨rfl, by omega, by omega, by rw [hnext]; omega⟩, by omega⟩
  · have hge : ¬ i < s.n := by simpa using hge
    refine (grow8_ok (n := ((ls.take i.toNat).flatten.length : Int)) (by omega) (by omega)).mono ?_
    rintro r V1 ⟨x, rfl, hx⟩
    refine ⟨x, rfl, ?_⟩
    refine loop2 (k := .sl) (l := .int .i64) (fun (x : Sl) (i : Int) V2 => 0 ≤ i ∧ i ≤ s.n ∧ Fresh8 V' V2 x (ls.take i.toNat).flatten) (fun _ (i : Int) _ => s.n - i.toNat) ⟨by omega, by omega, hx⟩ ?_
    rintro (x : Sl) (j : Int) V2 ⟨k0, k1, hf⟩
    refine br_intro (fun hlt => ?_) (fun hge => ?_)
    · have hlt : j < s.n := by simpa using hlt
      obtain ⟨ad, y, hx, ha, hc, hy⟩ := (h.mono hf.vle).sl8 k0 hlt
      have hyn := hy.n
      have hbl := hf.buf.len
      rw [u8s_len] at hbl
      have hnext : (ls.take (j + 1).toNat).flatten = (ls.take j.toNat).flatten ++ ls[j.toNat] := by
        rw [show (j + 1).toNat = j.toNat + 1 by omega, List.take_add_one, List.getElem?_eq_getElem hx, List.flatten_append]
        simp
      have hle2 := flat_len8 ls (j + 1).toNat
      rw [hnext, List.length_append] at hle2
      refine ⟨k0, hlt, ad, ha, y, hc, apV_buf (cs := u8s (ls.take j.toNat).flatten) (src := u8s ls[j.toNat]) (m := y.n) rfl hf.buf ⟨rfl, hy.row8⟩ (by rw [u8s_len]; omega) (u8s_one _) (by show (x.n + y.n) * 1 ≤ _; omega) (by show x.n + y.n ≤ _; omega) ?_⟩
      intro z V3 hb _ hle
      refine ⟨inI64 (by omega) (by omega), ⟨by omega, by omega, ?_, ?_⟩, by omega⟩
      · rw [hnext, u8s_append]; exact hb
      · exact hf.le.trans hle
    · have hge : ¬ j < s.n := by simpa using hge
      refine ⟨x, rfl, ?_⟩
      rw [List.take_of_length_le (by omega)] at hf
      exact hf
/-- Digits, the least first. -/
def loL : Nat → Nat → List UInt8
  | 0, _ => []
  | f + 1, n => if n = 0 then [] else UInt8.ofNat (n % 128 + 128) :: loL f (n / 128)
theorem loL_rev : ∀ (f n : Nat), (loL f n).reverse = hiL f n
  | 0, _ => rfl
  | f + 1, n => by
    unfold loL hiL
    split
    · rfl
    · rw [List.reverse_cons, loL_rev f]
theorem numL_rev (n : Nat) : (UInt8.ofNat (n % 128) :: loL 6 (n / 128)).reverse = numL n := by
  rw [List.reverse_cons, loL_rev]; rfl
theorem loL_len : ∀ (f n : Nat), (loL f n).length ≤ f := fun f n => by rw [← List.length_reverse, loL_rev]; exact hiL_len f n
theorem numL_len (n : Nat) : (numL n).length ≤ 7 := by
  unfold numL
  have := hiL_len 6 (n / 128)
  simp; omega
/-- A row of one's own is turned round. -/
theorem reverse8_ok {s : Sl} {l : List UInt8} {V : View} (h : Buf V s 5 1 (u8s l)) : CallV Try.prog 78 ⟨[.slice s.a s.n s.c]⟩ V fun r V' => r = .tuple ⟨[]⟩ ∧ Buf V' s 5 1 (u8s l.reverse) ∧ (V.minus s).Le (V'.minus s) := by
  refine f78_x ?_
  unfold f78_n
  have hlen := h.len
  rw [u8s_len, Nat.mul_one] at hlen
  have hlim := h.lim
  refine ⟨inI64 (by omega) (by omega), ?_⟩
  refine loop2 (k := .int .i64) (l := .int .i64) (fun (i : Int) (j : Int) V' => 0 ≤ i ∧ i + j = s.n - 1 ∧ i ≤ j + 2 ∧ (∃ m : List UInt8, m.length = l.length ∧ Buf V' s 5 1 (u8s m) ∧ (∀ k, k < l.length → m[k]? = if (k : Int) < i ∨ j < (k : Int) then l.reverse[k]? else l[k]?)) ∧ (V.minus s).Le (V'.minus s)) (fun (i : Int) (j : Int) _ => (j - i + 3).toNat)
    ⟨by omega, by omega, by omega, ⟨l, rfl, h, fun k hk => by rw [if_neg (by omega)]⟩, View.Le.refl _⟩ ?_
  rintro (i : Int) (j : Int) V' ⟨h0, h1, h2, ⟨m, hm, hb, hget⟩, hle⟩
  refine br_intro (fun hlt => ?_) (fun hge => ?_)
  · have hlt : i < j := by simpa using hlt
    have hi : i.toNat < m.length := by omega
    have hj : j.toNat < m.length := by omega
    rcases hb.own with ⟨_, hc⟩ | ⟨r, all, ha, hs, hal, htk⟩
    · have := hb.le; omega
    have hcell : ∀ k, (hk : k < m.length) → V'.cell? ((⟨r, 0, none⟩ : Addr).add (k * 1)) = some (.int .u8 m[k].toNat) := fun k hk => by
      rw [addr0_add]
      refine cell_of_see hs ?_
      have e1 : (u8s m)[k]? = some (.int .u8 m[k].toNat) := by simp [u8s, List.getElem?_eq_getElem hk]
      rw [← htk, List.getElem?_take] at e1
      split at e1
      · simpa using e1
      · cases e1
    have hall : s.n * 1 ≤ all.length := by rw [hal]; exact Nat.mul_le_mul_right _ hb.le
    have e0 : ∀ k : Nat, (⟨r, 0, none⟩ : Addr).add (k * 1) = ⟨r, k, none⟩ := fun k => by rw [addr0_add]; simp
    refine ⟨trivial, V', View.Le.refl _, by omega, by omega, _, ha, _, hcell j.toNat hj, by omega, by omega, _, ha, _, hcell i.toNat hi, by omega, by omega, _, ha, ?_, by omega, by omega, _, ha, ?_, inI64 (by omega) (by omega), inI64 (by omega) (by omega), ?_⟩
    · rw [e0]; exact canSet_of hs (show i.toNat + 1 ≤ all.length by omega)
    · rw [e0, e0, sets_see hs]
      refine canSet_of (View.see_put_same _ _ _) ?_
      show j.toNat + 1 ≤ (all.set i.toNat _).length
      rw [List.length_set]; omega
    · rw [e0, e0, sets_see hs, sets_see (View.see_put_same _ _ _)]
      have hput : ∀ (cs : List Value) (k : Nat) (v : Value), k < cs.length → putL cs k [v] = cs.set k v := fun cs k v hk => rfl
      rw [hput _ _ _ (by omega), hput _ _ _ (by simp; omega)]
      refine ⟨⟨by omega, by omega, by omega, ⟨(m.set i.toNat m[j.toNat]).set j.toNat m[i.toNat], by simp [hm], ⟨?_, hb.le, hb.lim, .inr ⟨r, _, ha, View.see_put_same _ _ _, by simp [hal], ?_⟩⟩, fun k hk => ?_⟩, ?_⟩, by omega⟩
      · rw [u8s_len]; simp [hm]; omega
      · rw [List.take_set, List.take_set, htk]
        simp [u8s, List.map_set]
      · have hr1 : ∀ k, k < l.length → l.reverse[k]? = l[l.length - 1 - k]? := fun k hk => List.getElem?_reverse hk
        have hmi := hget i.toNat (by omega)
        have hmj := hget j.toNat (by omega)
        rw [if_neg (by omega)] at hmi hmj
        rw [List.getElem?_set, List.getElem?_set]
        by_cases kj : j.toNat = k
        · subst kj
          rw [if_pos rfl, if_pos (by simp; omega), if_pos (by omega), hr1 _ hk, ← List.getElem?_eq_getElem hi, hmi]
          congr 1; omega
        · rw [if_neg kj]
          by_cases ki : i.toNat = k
          · subst ki
            rw [if_pos rfl, if_pos hi, if_pos (by omega), hr1 _ hk, ← List.getElem?_eq_getElem hj, hmj]
            congr 1; omega
          · rw [if_neg ki, hget k hk]
            by_cases c1 : (k : Int) < i ∨ j < (k : Int)
            · rw [if_pos c1, if_pos (by omega)]
            · rw [if_neg c1, if_neg (by omega)]
      · refine hle.trans ?_
        unfold View.minus
        rw [ha]
        exact (hide_le_put_hide r _).trans (hide_le_put_hide r _)
  · have hge : ¬ i < j := by simpa using hge
    have hml : m = l.reverse := by
      apply List.ext_getElem?
      intro k
      by_cases hk : k < l.length
      · rw [hget k hk]
        by_cases c1 : (k : Int) < i ∨ j < (k : Int)
        · rw [if_pos c1]
        · rw [if_neg c1, List.getElem?_reverse hk]
          congr 1; omega
      · rw [List.getElem?_eq_none (by omega), List.getElem?_eq_none (by simp; omega)]
    rw [hml] at hb
    exact ⟨rfl, hb, hle⟩
theorem wrap_u8 {n : Int} (h0 : 0 ≤ n) (h1 : n ≤ 255) : IntKind.u8.wrap n = n := by
  unfold IntKind.wrap
  simp [IntKind.signed, IntKind.bits]
  omega
theorem clamp_eq (n : Int) : (if (1099511627776 : Int) < (if (0 : Int) > n then 0 else n) then (1099511627776 : Int) else if (0 : Int) > n then 0 else n) = (clampN n : Int) := by
  unfold clampN
  split <;> split <;> omega
theorem clampN_le (n : Int) : clampN n ≤ 1099511627776 := by unfold clampN; omega
theorem numI_len (n : Int) : (numI n).length ≤ 7 := numL_len _
theorem number8_ok {s : Sl} {l : List UInt8} {n : Int} {V : View} (h : SlR V s l) (hl : l.length ≤ 140737488355000) : CallV Try.prog 61 ⟨[.slice s.a s.n s.c, .int .i64 n]⟩ V fun r V' => ∃ x : Sl, r = .slice x.a x.n x.c ∧ Fresh8 V V' x (l ++ numI n) := by
  refine f61_x ?_
  unfold f61_n
  rw [clamp_eq]
  have hc := clampN_le n
  generalize hk : clampN n = k at *
  have e1 : Int.tmod (k : Int) 128 = ((k % 128 : Nat) : Int) := by rw [Int.tmod_eq_emod_of_nonneg (by omega)]; omega
  have e2 : Int.tdiv (k : Int) 128 = ((k / 128 : Nat) : Int) := by rw [Int.tdiv_eq_ediv_of_nonneg (by omega)]; omega
  rw [e1, e2, wrap_u8 (by omega) (by omega)]
  refine ⟨by decide, fun r hr => ⟨by decide, inI64 (by omega) (by omega), ?_⟩⟩
  have hfr : V.see r = none := View.see_none_of_ge hr
  have hd0 : (UInt8.ofNat (k % 128)).toNat = k % 128 := toNat_ofNat_lt (by omega)
  refine loop2 (k := .int .i64) (l := .sl) (fun (x : Int) (o : Sl) V1 => ∃ (q : Nat) (f : Nat) (pre : List UInt8), x = q ∧ q ≤ 8589934592 ∧ UInt8.ofNat (k % 128) :: (pre ++ loL f q) = UInt8.ofNat (k % 128) :: loL 6 (k / 128) ∧ pre.length + f = 6 ∧ q < 128 ^ f ∧ Buf V1 o 5 1 (u8s (UInt8.ofNat (k % 128) :: pre)) ∧ V.Le (V1.minus o)) (fun (x : Int) _ _ => x.toNat)
    ⟨k / 128, 6, [], rfl, by omega, rfl, rfl, by
      have : (128 : Nat) ^ 6 = 4398046511104 := by decide
      omega, ⟨by simp [u8s], Nat.le_refl _, (by decide : 1 ≤ 140737488355328), .inr ⟨r, _, rfl, View.see_put_same _ _ _, by simp [putL], by simp [putL, u8s, hd0]⟩⟩, ?_⟩ ?_
  · refine ⟨Nat.le_max_left _ _, fun i o ho => ?_, rfl⟩
    have hne : i ≠ r := fun e => by rw [e, hfr] at ho; cases ho
    show (if i = r then none else View.see (V.put r _) i) = some o
    rw [if_neg hne, View.see_put_ne V _ hne]; exact ho
  rintro (x : Int) (o : Sl) V1 ⟨q, f, pre, rfl, hq, hpre, hpf, hqf, hb, hle⟩
  have hbl := hb.len
  rw [u8s_len, Nat.mul_one, List.length_cons] at hbl
  refine br_intro (fun hlt => ?_) (fun hge => ?_)
  · have hlt : 0 < q := by simpa using hlt
    obtain ⟨f, rfl⟩ : ∃ g, f = g + 1 := by
      cases f with
      | zero => simp at hqf; omega
      | succ g => exact ⟨g, rfl⟩
    have e1 : Int.tmod (q : Int) 128 = ((q % 128 : Nat) : Int) := by rw [Int.tmod_eq_emod_of_nonneg (by omega)]; omega
    have e2 : Int.tdiv (q : Int) 128 = ((q / 128 : Nat) : Int) := by rw [Int.tdiv_eq_ediv_of_nonneg (by omega)]; omega
    rw [e1, e2, wrap_u8 (by omega) (by omega)]
    have hd : (UInt8.ofNat (q % 128 + 128)).toNat = q % 128 + 128 := toNat_ofNat_lt (by omega)
    refine ⟨by decide, inI64 (by omega) (by omega), fun r1 hr1 => ?_⟩
    have hfr1 : V1.see r1 = none := View.see_none_of_ge hr1
    refine apV_buf (cs := u8s (UInt8.ofNat (k % 128) :: pre)) (src := u8s [UInt8.ofNat (q % 128 + 128)]) (m := 1) rfl (hb.put hfr1) ⟨rfl, ⟨rfl, ?_⟩⟩ rfl (u8s_one _) (by show (o.n + 1) * 1 ≤ _; have := loL_len 6 (k / 128); omega) (by show o.n + 1 ≤ _; omega) ?_
    · refine cellsAt_of_see (View.see_put_same _ _ _) fun j v hj => ?_
      cases j with
      | succ j => simp [u8s] at hj
      | zero =>
        simp only [u8s, List.map_cons, List.map_nil, List.getElem?_cons_zero, Option.some.injEq, hd] at hj
        subst hj
        simp [putL]
    · intro o2 V2 hb2 _ hle2
      refine ⟨by decide, inI64 (by omega) (by omega), ⟨q / 128, f, pre ++ [UInt8.ofNat (q % 128 + 128)], rfl, by omega, ?_, by simp; omega, Nat.div_lt_of_lt_mul (by rw [Nat.pow_succ] at hqf; omega), ?_, ?_⟩, by omega⟩
      · rw [← hpre, loL, if_neg (by omega)]; simp
      · rw [← u8s_append] at hb2; exact hb2
      · exact (hle.trans (put_minus_le hfr1)).trans hle2
  · have hge : q = 0 := by simpa using hge
    subst hge
    have hpre2 : UInt8.ofNat (k % 128) :: pre = UInt8.ofNat (k % 128) :: loL 6 (k / 128) := by
      rw [← hpre]
      cases f <;> simp [loL]
    refine (reverse8_ok hb).mono ?_
    rintro r2 V2 ⟨rfl, hb2, hle2⟩
    rw [hpre2, numL_rev] at hb2
    have hle12 := hle.trans hle2
    refine ⟨rfl, fun r3 hr3 => ?_⟩
    have hfr3 : V2.see r3 = none := View.see_none_of_ge hr3
    have hV2 : V.Le V2 := hle12.trans (View.minus_le _ _)
    have hin : SlR (V2.put r3 (.cells ⟨putL (putL [.slice none 0 0, .slice none 0 0] 0 [.slice s.a s.n s.c]) 1 [.slice o.a o.n o.c]⟩ 22)) ⟨some ⟨r3, 0, none⟩, 2, 2⟩ [l, numL k] := by
      have hp := View.put_le (V := V2) (o := .cells ⟨putL (putL [.slice none 0 0, .slice none 0 0] 0 [.slice s.a s.n s.c]) 1 [.slice o.a o.n o.c]⟩ 22) hfr3
      refine ⟨rfl, Nat.le_refl _, (by decide : 2 ≤ 9223372036854775807), fun i hi => ?_⟩
      have hcell : ∀ (i : Nat) v, ([Value.slice s.a s.n s.c, .slice o.a o.n o.c] : List Value)[i]? = some v → (V2.put r3 (.cells ⟨putL (putL [.slice none 0 0, .slice none 0 0] 0 [.slice s.a s.n s.c]) 1 [.slice o.a o.n o.c]⟩ 22)).cell? ((⟨r3, 0, none⟩ : Addr).add (i * 1)) = some v := fun i v hv => by
        rw [addr0_add]
        refine cell_of_see (View.see_put_same _ _ _) ?_
        simpa [putL] using hv
      match i, hi with
      | 0, _ => exact ⟨_, _, rfl, cellsAt_one.2 (hcell 0 _ rfl), s, rfl, (h.mono hV2).mono hp⟩
      | 1, _ => exact ⟨_, _, rfl, cellsAt_one.2 (hcell 1 _ rfl), o, rfl, (hb2.slR (W := V2) (u8s_rep _) (View.Le.refl _)).mono hp⟩
    have hnl := numL_len k
    refine (concat8_ok hin (by simp; omega)).mono ?_
    rintro r4 V4 ⟨x, rfl, hx⟩
    refine ⟨x, rfl, x, rfl, ?_, (hV2.trans (View.put_le hfr3)).trans hx.le⟩
    have hb4 := hx.buf
    simp only [List.flatten_cons, List.flatten_nil, List.append_nil] at hb4
    show Buf V4 x _ 1 (u8s (l ++ numI n))
    unfold numI
    rw [hk]; exact hb4
theorem text8_ok {s t : Sl} {l m : List UInt8} {V : View} (h : SlR V s l) (k : SlR V t m) (hl : l.length + m.length ≤ 140737488354000) : CallV Try.prog 31 ⟨[.slice s.a s.n s.c, .slice t.a t.n t.c]⟩ V fun r V' => ∃ x : Sl, r = .slice x.a x.n x.c ∧ Fresh8 V V' x (l ++ textL m) := by
  refine f31_x ?_
  unfold f31_n
  have kn := k.n
  refine (number8_ok (n := (t.n : Int)) h (by omega)).mono ?_
  rintro r V1 ⟨x, rfl, hx⟩
  have hbl := hx.buf.len
  rw [u8s_len, Nat.mul_one, List.length_append] at hbl
  have hnl := numI_len (t.n : Int)
  refine ⟨x, rfl, apV_buf (cs := u8s (l ++ numI t.n)) (src := u8s m) (m := t.n) rfl hx.buf ⟨rfl, (k.mono hx.vle).row8⟩ (by rw [u8s_len]; omega) (u8s_one _) (by show (x.n + t.n) * 1 ≤ _; omega) (by show x.n + t.n ≤ _; omega) ?_⟩
  intro y V2 hb _ hle
  refine ⟨y, rfl, ?_, hx.le.trans hle⟩
  rw [← u8s_append, List.append_assoc] at hb
  unfold textL
  rw [← kn]
  exact hb
/-- Numbers behind one another. -/
def numsL (l : List Int) : List UInt8 := (l.map numI).flatten
theorem numsL_append (l m : List Int) : numsL (l ++ m) = numsL l ++ numsL m := by simp [numsL]
theorem numsL_one (n : Int) : numsL [n] = numI n := by simp [numsL]
theorem numsL_len : ∀ l : List Int, (numsL l).length ≤ 7 * l.length
  | [] => by simp [numsL]
  | n :: l => by
    have h1 := numI_len n
    have h2 := numsL_len l
    have e : numsL (n :: l) = numI n ++ numsL l := rfl
    rw [e, List.length_append, List.length_cons]
    omega
theorem numbers8_ok {s t : Sl} {l : List UInt8} {ns : List Int} {V : View} (h : SlR V s l) (k : SlR V t ns) (hl : l.length + 7 * ns.length ≤ 140737488350000) : CallV Try.prog 30 ⟨[.slice s.a s.n s.c, .slice t.a t.n t.c]⟩ V fun r V' => ∃ x : Sl, r = .slice x.a x.n x.c ∧ V.Le V' ∧ SlR V' x (l ++ numsL ns) := by
  refine f30_x ?_
  unfold f30_n
  have kn := k.n
  refine loop2 (k := .sl) (l := .int .i64) (fun (x : Sl) (i : Int) V1 => 0 ≤ i ∧ i ≤ t.n ∧ V.Le V1 ∧ SlR V1 x (l ++ numsL (ns.take i.toNat))) (fun _ (i : Int) _ => t.n - i.toNat) ⟨by omega, by omega, View.Le.refl V, by simpa [numsL] using h⟩ ?_
  rintro (x : Sl) (i : Int) V1 ⟨h0, h1, hle, hx⟩
  refine br_intro (fun hlt => ?_) (fun hge => ?_)
  · have hlt : i < t.n := by simpa using hlt
    obtain ⟨ad, hi, ha, hc, hr⟩ := (k.mono hle).int h0 hlt
    have hnl := numsL_len (ns.take i.toNat)
    refine ⟨h0, hlt, ad, ha, _, hc, (number8_ok hx (by simp at hnl ⊢; omega)).mono ?_⟩
    rintro r V2 ⟨y, rfl, hy⟩
    refine ⟨y, rfl, inI64 (by omega) (by omega), ⟨by omega, by omega, hle.trans hy.vle, ?_⟩, by omega⟩
    have := hy.slR
    rw [List.append_assoc] at this
    have e : numsL (ns.take (i + 1).toNat) = numsL (ns.take i.toNat) ++ numI ns[i.toNat] := by
      rw [show (i + 1).toNat = i.toNat + 1 by omega, List.take_add_one, List.getElem?_eq_getElem hi, numsL_append]
      exact congrArg _ (numsL_one _)
    rw [e]; exact this
  · have hge : ¬ i < t.n := by simpa using hge
    rw [List.take_of_length_le (by omega)] at hx
    exact ⟨x, rfl, hle, hx⟩
end Go.Proofs.Ytpalkdmngckcoaa
