/- Texts joined: BytesOk, Set, Wr, ReadOk, SheetLaw, PlanLaw, ChipLaw, PlanOk, ChipOk, Chip2Ok, Chip3Ok, Chip4Ok, BlockOk, SheetOk, PairLaw, PlaceLaw, PlaceOk, PoolLaw, PoolOk, Pool2Ok, Pool3Ok, OrderOk, SortF, SortOk, Sort2Ok, AllOk, Pool4Ok, Pool5Ok, ParseSOk. -/
import Derived.Test.YtgkmcnafkhdlnaaGreatPk1
import Derived.Shelf.SlSortCmp.WholeK
import Derived.Shelf.SlGeneric
import Derived.Ground.SlsfProg
import Derived.Test.YtgkmcnafkhdlnaaGreatProg
import Derived.Shelf.SlSortCmp.NoneTotal
set_option linter.unusedVariables false
set_option linter.unusedSimpArgs false
/- Contracts of package bytes. -/
namespace Go.Proofs.YtgkmcnafkhdlnaaGreat
open Go
/-- Bytes as cells. -/
def u8s (l : List UInt8) : List Value := l.map fun b => .int .u8 b.toNat
theorem u8s_append (l m : List UInt8) : u8s (l ++ m) = u8s l ++ u8s m := List.map_append
theorem u8s_len (l : List UInt8) : (u8s l).length = l.length := List.length_map _
theorem u8s_one (l : List UInt8) : (u8s l).all Value.oneCell' = true := by
  rw [List.all_eq_true]
  intro v hv
  obtain ⟨b, _, rfl⟩ := List.mem_map.1 hv
  rfl
theorem u8s_rep {W : View} : ∀ l : List UInt8, repL W (u8s l) l
  | [] => rfl
  | b :: l => ⟨[.int .u8 b.toNat], u8s l, rfl, rfl, u8s_rep l⟩
theorem repL_u8 {W : View} : ∀ {cs : List Value} {l : List UInt8}, repL W cs l → cs = u8s l
  | _, [], h => h
  | _, b :: l, ⟨vs, us, e, h1, h2⟩ => by
    have h1 : vs = [Value.int .u8 b.toNat] := h1
    rw [e, h1, repL_u8 h2]; rfl
theorem SlR.row8 {V : View} {s : Sl} {l : List UInt8} (h : SlR V s l) : rowAt V s.a (s.n * 1) (u8s l) := by
  obtain ⟨cs, h1, h2⟩ := h.row
  rw [repL_u8 h2] at h1
  exact h1
/-- Bytes that a call made: in a row of its own. -/
structure Fresh8 (V V' : View) (x : Sl) (l : List UInt8) : Prop where
  buf : Buf V' x 5 1 (u8s l)
  le : V.Le (V'.minus x)
theorem Fresh8.slR {V V' : View} {x : Sl} {l : List UInt8} (h : Fresh8 V V' x l) : SlR V' x l := h.buf.slR (W := V) (u8s_rep l) (h.le.trans (View.minus_le _ _))
theorem Fresh8.vle {V V' : View} {x : Sl} {l : List UInt8} (h : Fresh8 V V' x l) : V.Le V' := h.le.trans (View.minus_le _ _)
theorem clone8_ok {s : Sl} {l : List UInt8} {V : View} (h : SlR V s l) (hl : l.length ≤ 140737488355328) : CallV Tryz.prog 78 ⟨[.slice s.a s.n s.c]⟩ V fun r V' => ∃ x : Sl, r = .slice x.a x.n x.c ∧ Fresh8 V V' x l := by
  refine f78_x ?_
  unfold f78_n
  have hn := h.n
  refine br_intro (fun hnil => ?_) (fun _ => ?_)
  · have ha : s.a = none := Option.isNone_iff_eq_none.1 hnil
    have hl0 : l = [] := by
      cases l with
      | nil => rfl
      | cons b l => obtain ⟨ad, vs, h1, _⟩ := h.get 0 (by simp); rw [ha] at h1; cases h1
    subst hl0
    exact ⟨⟨none, 0, 0⟩, rfl, Buf.nil _ _ _, View.Le.refl V⟩
  · intro r hr
    have hfr : V.see r = none := View.see_none_of_ge hr
    refine apV_buf (cs := []) (src := u8s l) (m := s.n) rfl ⟨rfl, Nat.le_refl _, Nat.zero_le _, .inr ⟨r, [], rfl, View.see_put_same _ _ _, rfl, rfl⟩⟩ ?_ (by rw [u8s_len, hn]; omega) (u8s_one l) (by simp; omega) (by simp; omega) ?_
    · exact ⟨rfl, (h.mono (View.put_le hfr)).row8⟩
    · intro x V' hb _ hle
      refine ⟨x, rfl, hb, View.Le.trans ?_ hle⟩
      refine ⟨Nat.le_max_left _ _, fun i o ho => ?_, rfl⟩
      have hne : i ≠ r := fun e => by rw [e, hfr] at ho; cases ho
      show (if i = r then none else View.see (V.put r _) i) = some o
      rw [if_neg hne, View.see_put_ne V _ hne]; exact ho
theorem grow8_ok {n : Int} {V : View} (h0 : 0 ≤ n) (h1 : n ≤ 140737488355328) : CallV Tryz.prog 187 ⟨[.slice none 0 0, .int .i64 n]⟩ V fun r V' => ∃ x : Sl, r = .slice x.a x.n x.c ∧ Fresh8 V V' x [] := by
  refine f187_x (a0 := ⟨none, 0, 0⟩) ?_
  unfold f187_n
  refine joinP_cut (fun _ V' => V' = V) (br_intro (fun h => absurd h (by simp; omega)) (fun _ => rfl)) ?_
  rintro ⟨⟩ V' rfl
  refine ⟨inI64 (by simp) (by simp), inI64 (by simp; omega) (by simp; omega), joinP_cut (fun s V1 => Fresh8 V' V1 s.1 []) ?_ (fun s V1 h => ⟨s.1, rfl, h⟩)⟩
  refine br_intro (fun _ => ⟨by omega, by simp, by simp, ?_⟩) (fun _ => ⟨Buf.nil _ _ _, View.Le.refl _⟩)
  have e1 : (n - (((0 : Nat) : Int) - ((0 : Nat) : Int))) = n := by simp
  rw [e1]
  refine apV_buf (cs := []) (src := (List.replicate n.toNat [Value.int .u8 0]).flatten) (m := n.toNat) rfl (Buf.nil _ _ _) ⟨h0, rfl, rfl⟩ (by simp) ?_ (by simp; omega) (by simp; omega) ?_
  · rw [List.all_eq_true]
    intro v hv
    obtain ⟨l, hl, hvl⟩ := List.mem_flatten.1 hv
    rw [(List.mem_replicate.1 hl).2] at hvl
    rw [List.mem_singleton.1 hvl]; rfl
  · intro s V1 hb hsn hle
    have hcut := hb.cut (Nat.zero_le s.n)
    have e2 : (if s.c = 0 then s.a else Option.map (fun (x : Addr) => x.add 0) s.a) = s.a := by rw [map_add_zero]; simp
    refine ⟨by omega, by simp, by simp, ?_⟩
    rw [e2]
    exact ⟨by simpa [u8s] using hcut, hle⟩
theorem flat_len8 : ∀ (ls : List (List UInt8)) (i : Nat), (ls.take i).flatten.length ≤ ls.flatten.length
  | [], i => by simp
  | x :: ls, 0 => by simp
  | x :: ls, i + 1 => by
    have := flat_len8 ls i
    simp only [List.take_succ_cons, List.flatten_cons, List.length_append]
    omega
theorem SlR.sl8 {V : View} {s : Sl} {ls : List (List UInt8)} (h : SlR V s ls) {x : Int} (h0 : 0 ≤ x) (h1 : x < s.n) :
    ∃ ad, ∃ y : Sl, ∃ hx : x.toNat < ls.length, s.a = some ad ∧ V.cell? (ad.add (x.toNat * 1)) = some (.slice y.a y.n y.c) ∧ SlR V y ls[x.toNat] := by
  obtain ⟨ad, vs, hx, ha, hc, y, rfl, hy⟩ := h.ld h0 h1
  exact ⟨ad, y, hx, ha, cellsAt_one.1 hc, hy⟩
theorem concat8_ok {s : Sl} {ls : List (List UInt8)} {V : View} (h : SlR V s ls) (hl : ls.flatten.length ≤ 140737488355328) : CallV Tryz.prog 167 ⟨[.slice s.a s.n s.c]⟩ V fun r V' => ∃ x : Sl, r = .slice x.a x.n x.c ∧ Fresh8 V V' x ls.flatten := by
  refine f167_x ?_
  unfold f167_n
  have hn := h.n; have hlim := h.lim
  refine loop2 (k := .int .i64) (l := .int .i64) (fun (x : Int) (i : Int) V' => V' = V ∧ 0 ≤ i ∧ i ≤ s.n ∧ x = (ls.take i.toNat).flatten.length) (fun _ (i : Int) _ => s.n - i.toNat) ⟨rfl, by omega, by omega, by simp⟩ ?_
  rintro (x : Int) (i : Int) V' ⟨rfl, h0, h1, rfl⟩
  have hle1 := flat_len8 ls i.toNat
  refine br_intro (fun hlt => ?_) (fun hge => ?_)
  · have hlt : i < s.n := by simpa using hlt
    obtain ⟨ad, y, hx, ha, hc, hy⟩ := h.sl8 h0 hlt
    have hyn := hy.n
    have hnext : (ls.take (i + 1).toNat).flatten.length = (ls.take i.toNat).flatten.length + y.n := by
      rw [show (i + 1).toNat = i.toNat + 1 by omega, List.take_add_one, List.getElem?_eq_getElem hx, List.flatten_append]
      simp [hyn]
    have hle2 := flat_len8 ls (i + 1).toNat
    refine ⟨h0, hlt, ad, ha, y, hc, inI64 (by omega) (by omega), joinP_cut (fun _ V2 => V2 = V') (br_intro (fun h => absurd h (by simp; omega)) (fun _ => rfl)) ?_⟩
    rintro ⟨⟩ V2 rfl
    exact ⟨inI64 (by omega) (by omega), ⟨rfl, by omega, by omega, by rw [hnext]; omega⟩, by omega⟩
  · have hge : ¬ i < s.n := by simpa using hge
    refine (grow8_ok (n := ((ls.take i.toNat).flatten.length : Int)) (by omega) (by omega)).mono ?_
    rintro r V1 ⟨x, rfl, hx⟩
    refine ⟨x, rfl, ?_⟩
    refine loop2 (k := .sl) (l := .int .i64) (fun (x : Sl) (i : Int) V2 => 0 ≤ i ∧ i ≤ s.n ∧ Fresh8 V' V2 x (ls.take i.toNat).flatten) (fun _ (i : Int) _ => s.n - i.toNat) ⟨by omega, by omega, hx⟩ ?_
    rintro (x : Sl) (j : Int) V2 ⟨k0, k1, hf⟩
    refine br_intro (fun hlt => ?_) (fun hge => ?_)
    · have hlt : j < s.n := by simpa using hlt
      obtain ⟨ad, y, hx, ha, hc, hy⟩ := (h.mono hf.vle).sl8 k0 hlt
      have hyn := hy.n
      have hbl := hf.buf.len
      rw [u8s_len] at hbl
      have hnext : (ls.take (j + 1).toNat).flatten = (ls.take j.toNat).flatten ++ ls[j.toNat] := by
        rw [show (j + 1).toNat = j.toNat + 1 by omega, List.take_add_one, List.getElem?_eq_getElem hx, List.flatten_append]
        simp
      have hle2 := flat_len8 ls (j + 1).toNat
      rw [hnext, List.length_append] at hle2
      refine ⟨k0, hlt, ad, ha, y, hc, apV_buf (cs := u8s (ls.take j.toNat).flatten) (src := u8s ls[j.toNat]) (m := y.n) rfl hf.buf ⟨rfl, hy.row8⟩ (by rw [u8s_len]; omega) (u8s_one _) (by show (x.n + y.n) * 1 ≤ _; omega) (by show x.n + y.n ≤ _; omega) ?_⟩
      intro z V3 hb _ hle
      refine ⟨inI64 (by omega) (by omega), ⟨by omega, by omega, ?_, ?_⟩, by omega⟩
      · rw [hnext, u8s_append]; exact hb
      · exact hf.le.trans hle
    · have hge : ¬ j < s.n := by simpa using hge
      refine ⟨x, rfl, ?_⟩
      rw [List.take_of_length_le (by omega)] at hf
      exact hf
/-- Digits, the least first. -/
def loL : Nat → Nat → List UInt8
  | 0, _ => []
  | f + 1, n => if n = 0 then [] else UInt8.ofNat (n % 128 + 128) :: loL f (n / 128)
theorem loL_rev : ∀ (f n : Nat), (loL f n).reverse = hiL f n
  | 0, _ => rfl
  | f + 1, n => by
    unfold loL hiL
    split
    · rfl
    · rw [List.reverse_cons, loL_rev f]
theorem numL_rev (n : Nat) : (UInt8.ofNat (n % 128) :: loL 6 (n / 128)).reverse = numL n := by
  rw [List.reverse_cons, loL_rev]; rfl
theorem loL_len : ∀ (f n : Nat), (loL f n).length ≤ f := fun f n => by rw [← List.length_reverse, loL_rev]; exact hiL_len f n
theorem numL_len (n : Nat) : (numL n).length ≤ 7 := by
  unfold numL
  have := hiL_len 6 (n / 128)
  simp; omega
/-- A row of one's own is turned round. -/
theorem reverse8_ok {s : Sl} {l : List UInt8} {V : View} (h : Buf V s 5 1 (u8s l)) : CallV Tryz.prog 166 ⟨[.slice s.a s.n s.c]⟩ V fun r V' => r = .tuple ⟨[]⟩ ∧ Buf V' s 5 1 (u8s l.reverse) ∧ (V.minus s).Le (V'.minus s) := by
  refine f166_x ?_
  unfold f166_n
  have hlen := h.len
  rw [u8s_len, Nat.mul_one] at hlen
  have hlim := h.lim
  refine ⟨inI64 (by omega) (by omega), ?_⟩
  refine loop2 (k := .int .i64) (l := .int .i64) (fun (i : Int) (j : Int) V' => 0 ≤ i ∧ i + j = s.n - 1 ∧ i ≤ j + 2 ∧ (∃ m : List UInt8, m.length = l.length ∧ Buf V' s 5 1 (u8s m) ∧ (∀ k, k < l.length → m[k]? = if (k : Int) < i ∨ j < (k : Int) then l.reverse[k]? else l[k]?)) ∧ (V.minus s).Le (V'.minus s)) (fun (i : Int) (j : Int) _ => (j - i + 3).toNat)
    ⟨by omega, by omega, by omega, ⟨l, rfl, h, fun k hk => by rw [if_neg (by omega)]⟩, View.Le.refl _⟩ ?_
  rintro (i : Int) (j : Int) V' ⟨h0, h1, h2, ⟨m, hm, hb, hget⟩, hle⟩
  refine br_intro (fun hlt => ?_) (fun hge => ?_)
  · have hlt : i < j := by simpa using hlt
    have hi : i.toNat < m.length := by omega
    have hj : j.toNat < m.length := by omega
    rcases hb.own with ⟨_, hc⟩ | ⟨r, all, ha, hs, hal, htk⟩
    · have := hb.le; omega
    have hcell : ∀ k, (hk : k < m.length) → V'.cell? ((⟨r, 0, none⟩ : Addr).add (k * 1)) = some (.int .u8 m[k].toNat) := fun k hk => by
      rw [addr0_add]
      refine cell_of_see hs ?_
      have e1 : (u8s m)[k]? = some (.int .u8 m[k].toNat) := by simp [u8s, List.getElem?_eq_getElem hk]
      rw [← htk, List.getElem?_take] at e1
      split at e1
      · simpa using e1
      · cases e1
    have hall : s.n * 1 ≤ all.length := by rw [hal]; exact Nat.mul_le_mul_right _ hb.le
    have e0 : ∀ k : Nat, (⟨r, 0, none⟩ : Addr).add (k * 1) = ⟨r, k, none⟩ := fun k => by rw [addr0_add]; simp
    refine ⟨trivial, V', View.Le.refl _, by omega, by omega, _, ha, _, hcell j.toNat hj, by omega, by omega, _, ha, _, hcell i.toNat hi, by omega, by omega, _, ha, ?_, by omega, by omega, _, ha, ?_, inI64 (by omega) (by omega), inI64 (by omega) (by omega), ?_⟩
    · rw [e0]; exact canSet_of hs (show i.toNat + 1 ≤ all.length by omega)
    · rw [e0, e0, sets_see hs]
      refine canSet_of (View.see_put_same _ _ _) ?_
      show j.toNat + 1 ≤ (all.set i.toNat _).length
      rw [List.length_set]; omega
    · rw [e0, e0, sets_see hs, sets_see (View.see_put_same _ _ _)]
      have hput : ∀ (cs : List Value) (k : Nat) (v : Value), k < cs.length → putL cs k [v] = cs.set k v := fun cs k v hk => rfl
      rw [hput _ _ _ (by omega), hput _ _ _ (by simp; omega)]
      refine ⟨⟨by omega, by omega, by omega, ⟨(m.set i.toNat m[j.toNat]).set j.toNat m[i.toNat], by simp [hm], ⟨?_, hb.le, hb.lim, .inr ⟨r, _, ha, View.see_put_same _ _ _, by simp [hal], ?_⟩⟩, fun k hk => ?_⟩, ?_⟩, by omega⟩
      · rw [u8s_len]; simp [hm]; omega
      · rw [List.take_set, List.take_set, htk]
        simp [u8s, List.map_set]
      · have hr1 : ∀ k, k < l.length → l.reverse[k]? = l[l.length - 1 - k]? := fun k hk => List.getElem?_reverse hk
        have hmi := hget i.toNat (by omega)
        have hmj := hget j.toNat (by omega)
        rw [if_neg (by omega)] at hmi hmj
        rw [List.getElem?_set, List.getElem?_set]
        by_cases kj : j.toNat = k
        · subst kj
          rw [if_pos rfl, if_pos (by simp; omega), if_pos (by omega), hr1 _ hk, ← List.getElem?_eq_getElem hi, hmi]
          congr 1; omega
        · rw [if_neg kj]
          by_cases ki : i.toNat = k
          · subst ki
            rw [if_pos rfl, if_pos hi, if_pos (by omega), hr1 _ hk, ← List.getElem?_eq_getElem hj, hmj]
            congr 1; omega
          · rw [if_neg ki, hget k hk]
            by_cases c1 : (k : Int) < i ∨ j < (k : Int)
            · rw [if_pos c1, if_pos (by omega)]
            · rw [if_neg c1, if_neg (by omega)]
      · refine hle.trans ?_
        unfold View.minus
        rw [ha]
        exact (hide_le_put_hide r _).trans (hide_le_put_hide r _)
  · have hge : ¬ i < j := by simpa using hge
    have hml : m = l.reverse := by
      apply List.ext_getElem?
      intro k
      by_cases hk : k < l.length
      · rw [hget k hk]
        by_cases c1 : (k : Int) < i ∨ j < (k : Int)
        · rw [if_pos c1]
        · rw [if_neg c1, List.getElem?_reverse hk]
          congr 1; omega
      · rw [List.getElem?_eq_none (by omega), List.getElem?_eq_none (by simp; omega)]
    rw [hml] at hb
    exact ⟨rfl, hb, hle⟩
theorem wrap_u8 {n : Int} (h0 : 0 ≤ n) (h1 : n ≤ 255) : IntKind.u8.wrap n = n := by
  unfold IntKind.wrap
  simp [IntKind.signed, IntKind.bits]
  omega
theorem clamp_eq (n : Int) : (if (1099511627776 : Int) < (if (0 : Int) > n then 0 else n) then (1099511627776 : Int) else if (0 : Int) > n then 0 else n) = (clampN n : Int) := by
  unfold clampN
  split <;> split <;> omega
theorem clampN_le (n : Int) : clampN n ≤ 1099511627776 := by unfold clampN; omega
theorem numI_len (n : Int) : (numI n).length ≤ 7 := numL_len _
theorem number8_ok {s : Sl} {l : List UInt8} {n : Int} {V : View} (h : SlR V s l) (hl : l.length ≤ 140737488355000) : CallV Tryz.prog 135 ⟨[.slice s.a s.n s.c, .int .i64 n]⟩ V fun r V' => ∃ x : Sl, r = .slice x.a x.n x.c ∧ Fresh8 V V' x (l ++ numI n) := by
  refine f135_x ?_
  unfold f135_n
  rw [clamp_eq]
  have hc := clampN_le n
  generalize hk : clampN n = k at *
  have e1 : Int.tmod (k : Int) 128 = ((k % 128 : Nat) : Int) := by rw [Int.tmod_eq_emod_of_nonneg (by omega)]; omega
  have e2 : Int.tdiv (k : Int) 128 = ((k / 128 : Nat) : Int) := by rw [Int.tdiv_eq_ediv_of_nonneg (by omega)]; omega
  rw [e1, e2, wrap_u8 (by omega) (by omega)]
  refine ⟨by decide, fun r hr => ⟨by decide, inI64 (by omega) (by omega), ?_⟩⟩
  have hfr : V.see r = none := View.see_none_of_ge hr
  have hd0 : (UInt8.ofNat (k % 128)).toNat = k % 128 := toNat_ofNat_lt (by omega)
  refine loop2 (k := .int .i64) (l := .sl) (fun (x : Int) (o : Sl) V1 => ∃ (q : Nat) (f : Nat) (pre : List UInt8), x = q ∧ q ≤ 8589934592 ∧ UInt8.ofNat (k % 128) :: (pre ++ loL f q) = UInt8.ofNat (k % 128) :: loL 6 (k / 128) ∧ pre.length + f = 6 ∧ q < 128 ^ f ∧ Buf V1 o 5 1 (u8s (UInt8.ofNat (k % 128) :: pre)) ∧ V.Le (V1.minus o)) (fun (x : Int) _ _ => x.toNat)
    ⟨k / 128, 6, [], rfl, by omega, rfl, rfl, by
      have : (128 : Nat) ^ 6 = 4398046511104 := by decide
      omega, ⟨by simp [u8s], Nat.le_refl _, (by decide : 1 ≤ 140737488355328), .inr ⟨r, _, rfl, View.see_put_same _ _ _, by simp [putL], by simp [putL, u8s, hd0]⟩⟩, ?_⟩ ?_
  · refine ⟨Nat.le_max_left _ _, fun i o ho => ?_, rfl⟩
    have hne : i ≠ r := fun e => by rw [e, hfr] at ho; cases ho
    show (if i = r then none else View.see (V.put r _) i) = some o
    rw [if_neg hne, View.see_put_ne V _ hne]; exact ho
  rintro (x : Int) (o : Sl) V1 ⟨q, f, pre, rfl, hq, hpre, hpf, hqf, hb, hle⟩
  have hbl := hb.len
  rw [u8s_len, Nat.mul_one, List.length_cons] at hbl
  refine br_intro (fun hlt => ?_) (fun hge => ?_)
  · have hlt : 0 < q := by simpa using hlt
    obtain ⟨f, rfl⟩ : ∃ g, f = g + 1 := by
      cases f with
      | zero => simp at hqf; omega
      | succ g => exact ⟨g, rfl⟩
    have e1 : Int.tmod (q : Int) 128 = ((q % 128 : Nat) : Int) := by rw [Int.tmod_eq_emod_of_nonneg (by omega)]; omega
    have e2 : Int.tdiv (q : Int) 128 = ((q / 128 : Nat) : Int) := by rw [Int.tdiv_eq_ediv_of_nonneg (by omega)]; omega
    rw [e1, e2, wrap_u8 (by omega) (by omega)]
    have hd : (UInt8.ofNat (q % 128 + 128)).toNat = q % 128 + 128 := toNat_ofNat_lt (by omega)
    refine ⟨by decide, inI64 (by omega) (by omega), fun r1 hr1 => ?_⟩
    have hfr1 : V1.see r1 = none := View.see_none_of_ge hr1
    refine apV_buf (cs := u8s (UInt8.ofNat (k % 128) :: pre)) (src := u8s [UInt8.ofNat (q % 128 + 128)]) (m := 1) rfl (hb.put hfr1) ⟨rfl, ⟨rfl, ?_⟩⟩ rfl (u8s_one _) (by show (o.n + 1) * 1 ≤ _; have := loL_len 6 (k / 128); omega) (by show o.n + 1 ≤ _; omega) ?_
    · refine cellsAt_of_see (View.see_put_same _ _ _) fun j v hj => ?_
      cases j with
      | succ j => simp [u8s] at hj
      | zero =>
        simp only [u8s, List.map_cons, List.map_nil, List.getElem?_cons_zero, Option.some.injEq, hd] at hj
        subst hj
        simp [putL]
    · intro o2 V2 hb2 _ hle2
      refine ⟨by decide, inI64 (by omega) (by omega), ⟨q / 128, f, pre ++ [UInt8.ofNat (q % 128 + 128)], rfl, by omega, ?_, by simp; omega, Nat.div_lt_of_lt_mul (by rw [Nat.pow_succ] at hqf; omega), ?_, ?_⟩, by omega⟩
      · rw [← hpre, loL, if_neg (by omega)]; simp
      · rw [← u8s_append] at hb2; exact hb2
      · exact (hle.trans (put_minus_le hfr1)).trans hle2
  · have hge : q = 0 := by simpa using hge
    subst hge
    have hpre2 : UInt8.ofNat (k % 128) :: pre = UInt8.ofNat (k % 128) :: loL 6 (k / 128) := by
      rw [← hpre]
      cases f <;> simp [loL]
    refine (reverse8_ok hb).mono ?_
    rintro r2 V2 ⟨rfl, hb2, hle2⟩
    rw [hpre2, numL_rev] at hb2
    have hle12 := hle.trans hle2
    refine ⟨rfl, fun r3 hr3 => ?_⟩
    have hfr3 : V2.see r3 = none := View.see_none_of_ge hr3
    have hV2 : V.Le V2 := hle12.trans (View.minus_le _ _)
    have hin : SlR (V2.put r3 (.cells ⟨putL (putL [.slice none 0 0, .slice none 0 0] 0 [.slice s.a s.n s.c]) 1 [.slice o.a o.n o.c]⟩ 24)) ⟨some ⟨r3, 0, none⟩, 2, 2⟩ [l, numL k] := by
      have hp := View.put_le (V := V2) (o := .cells ⟨putL (putL [.slice none 0 0, .slice none 0 0] 0 [.slice s.a s.n s.c]) 1 [.slice o.a o.n o.c]⟩ 24) hfr3
      refine ⟨rfl, Nat.le_refl _, (by decide : 2 ≤ 9223372036854775807), fun i hi => ?_⟩
      have hcell : ∀ (i : Nat) v, ([Value.slice s.a s.n s.c, .slice o.a o.n o.c] : List Value)[i]? = some v → (V2.put r3 (.cells ⟨putL (putL [.slice none 0 0, .slice none 0 0] 0 [.slice s.a s.n s.c]) 1 [.slice o.a o.n o.c]⟩ 24)).cell? ((⟨r3, 0, none⟩ : Addr).add (i * 1)) = some v := fun i v hv => by
        rw [addr0_add]
        refine cell_of_see (View.see_put_same _ _ _) ?_
        simpa [putL] using hv
      match i, hi with
      | 0, _ => exact ⟨_, _, rfl, cellsAt_one.2 (hcell 0 _ rfl), s, rfl, (h.mono hV2).mono hp⟩
      | 1, _ => exact ⟨_, _, rfl, cellsAt_one.2 (hcell 1 _ rfl), o, rfl, (hb2.slR (W := V2) (u8s_rep _) (View.Le.refl _)).mono hp⟩
    have hnl := numL_len k
    refine (concat8_ok hin (by simp; omega)).mono ?_
    rintro r4 V4 ⟨x, rfl, hx⟩
    refine ⟨x, rfl, x, rfl, ?_, (hV2.trans (View.put_le hfr3)).trans hx.le⟩
    have hb4 := hx.buf
    simp only [List.flatten_cons, List.flatten_nil, List.append_nil] at hb4
    show Buf V4 x _ 1 (u8s (l ++ numI n))
    unfold numI
    rw [hk]; exact hb4
theorem text8_ok {s t : Sl} {l m : List UInt8} {V : View} (h : SlR V s l) (k : SlR V t m) (hl : l.length + m.length ≤ 140737488354000) : CallV Tryz.prog 134 ⟨[.slice s.a s.n s.c, .slice t.a t.n t.c]⟩ V fun r V' => ∃ x : Sl, r = .slice x.a x.n x.c ∧ Fresh8 V V' x (l ++ textL m) := by
  refine f134_x ?_
  unfold f134_n
  have kn := k.n
  refine (number8_ok (n := (t.n : Int)) h (by omega)).mono ?_
  rintro r V1 ⟨x, rfl, hx⟩
  have hbl := hx.buf.len
  rw [u8s_len, Nat.mul_one, List.length_append] at hbl
  have hnl := numI_len (t.n : Int)
  refine ⟨x, rfl, apV_buf (cs := u8s (l ++ numI t.n)) (src := u8s m) (m := t.n) rfl hx.buf ⟨rfl, (k.mono hx.vle).row8⟩ (by rw [u8s_len]; omega) (u8s_one _) (by show (x.n + t.n) * 1 ≤ _; omega) (by show x.n + t.n ≤ _; omega) ?_⟩
  intro y V2 hb _ hle
  refine ⟨y, rfl, ?_, hx.le.trans hle⟩
  rw [← u8s_append, List.append_assoc] at hb
  unfold textL
  rw [← kn]
  exact hb
theorem repL.set {α : Type} [Rep α] {W : View} {d : α} {ds : List Value} (hd : Rep.rep W ds d) : ∀ {cs : List Value} {l : List α} {i : Nat}, repL W cs l → i < l.length → repL W (putL cs (i * Rep.sz α) ds) (l.set i d)
  | _, [], i, _, hi => absurd hi (by simp)
  | _, x :: l, 0, ⟨vs, us, e, h1, h2⟩, _ => by
    have hv := Rep.len h1; have hdl := Rep.len hd
    refine ⟨ds, us, ?_, hd, h2⟩
    rw [Nat.zero_mul, putL_eq _ _ _ (by rw [e, List.length_append]; omega), e, List.take_zero, List.nil_append, Nat.zero_add, List.drop_append_of_le_length (by omega), List.drop_of_length_le (by omega), List.nil_append]
  | _, x :: l, i + 1, ⟨vs, us, e, h1, h2⟩, hi => by
    have hv := Rep.len h1; have hdl := Rep.len hd; have hul := h2.len
    have hi' : i < l.length := by simpa using hi
    have hle := Nat.mul_le_mul_right (Rep.sz α) (show i + 1 ≤ l.length from hi')
    rw [Nat.add_mul] at hle
    refine ⟨vs, putL us (i * Rep.sz α) ds, ?_, h1, repL.set hd h2 hi'⟩
    rw [putL_eq _ _ _ (by rw [e, List.length_append, Nat.add_mul]; omega), putL_eq _ _ _ (by omega), e, Nat.add_mul]
    rw [show i * Rep.sz α + 1 * Rep.sz α = vs.length + i * Rep.sz α by omega, List.take_append, List.drop_append]
    rw [List.take_of_length_le (show vs.length ≤ vs.length + i * Rep.sz α by omega), List.drop_of_length_le (show vs.length ≤ vs.length + i * Rep.sz α + ds.length by omega)]
    rw [show vs.length + i * Rep.sz α - vs.length = i * Rep.sz α by omega, show vs.length + i * Rep.sz α + ds.length - vs.length = i * Rep.sz α + ds.length by omega]
    simp [List.append_assoc]
theorem putL_take : ∀ (vs cs : List Value) (off m : Nat), (putL cs off vs).take m = putL (cs.take m) off vs
  | [], _, _, _ => rfl
  | v :: vs, cs, off, m => by rw [putL, putL, putL_take vs, List.take_set]
/-- Cells of a row of one's own may be set; all else is as it was. -/
theorem Buf.set {V : View} {x : Sl} {e : TypeId} {sz : Nat} {cs vs : List Value} (h : Buf V x e sz cs) {off : Nat} (hk : off + vs.length ≤ x.n * sz) (hv : 0 < vs.length) {ad : Addr} (ha : x.a = some ad) :
    canSet V (ad.add off) vs.length ∧ Buf (V.sets (ad.add off) vs) x e sz (putL cs off vs) ∧ (V.minus x).Le ((V.sets (ad.add off) vs).minus x) := by
  rcases h.own with ⟨h1, _⟩ | ⟨r, all, h1, h2, h3, h4⟩
  · rw [h1] at ha; cases ha
  · rw [h1] at ha; cases ha
    have hle := Nat.mul_le_mul_right sz h.le
    have e0 : (⟨r, 0, none⟩ : Addr).add off = ⟨r, off, none⟩ := by rw [addr0_add]; simp
    have hlen := h.len
    rw [e0, sets_see h2]
    refine ⟨canSet_of h2 (by omega), ⟨?_, h.le, h.lim, .inr ⟨r, _, h1, View.see_put_same _ _ _, ?_, ?_⟩⟩, ?_⟩
    · rw [putL_eq _ _ _ (by omega)]; simp; omega
    · rw [putL_eq _ _ _ (by omega)]; simp; omega
    · rw [putL_take, h4]
    · unfold View.minus; rw [h1]; exact hide_le_put_hide r _
theorem putL_mid {cs vs : List Value} {off j : Nat} {v : Value} (h : ∀ j v, vs[j]? = some v → cs[off + j]? = some v) (hj : j < vs.length) (hl : off + vs.length ≤ cs.length) : putL cs off (vs.set j v) = putL cs (off + j) [v] := by
  rw [putL_eq _ _ _ (by simpa using hl)]
  show _ = cs.set (off + j) v
  apply List.ext_getElem?
  intro k
  rw [List.length_set]
  by_cases h1 : k < off
  · rw [List.append_assoc, List.getElem?_append_left (by simp; omega), List.getElem?_take, if_pos h1, List.getElem?_set_ne (by omega)]
  · by_cases h2 : k < off + vs.length
    · rw [List.append_assoc, List.getElem?_append_right (by simp; omega), List.getElem?_append_left (by simp; omega), List.length_take, Nat.min_eq_left (by omega)]
      by_cases h3 : k = off + j
      · subst h3
        rw [show off + j - off = j by omega, List.getElem?_set_self hj, List.getElem?_set_self (by omega)]
      · rw [List.getElem?_set_ne (by omega), List.getElem?_set_ne (by omega)]
        have h4 : k - off < vs.length := by omega
        have := h (k - off) _ (List.getElem?_eq_getElem h4)
        rw [show off + (k - off) = k by omega] at this
        rw [this, List.getElem?_eq_getElem h4]
    · rw [List.getElem?_append_right (by simp; omega), List.getElem?_drop, List.getElem?_set_ne (by omega)]
      congr 1
      simp; omega
/-- A cell of element i of a row of one's own, set. -/
theorem Buf.setC {α : Type} [Rep α] {V : View} {x : Sl} {e : TypeId} {cs : List Value} {l : List α} (h : Buf V x e (Rep.sz α) cs) (hr : repL (V.minus x) cs l) {i : Nat} (hi : i < l.length) :
    ∃ ad vs, x.a = some ad ∧ cellsAt V (ad.add (i * Rep.sz α)) vs ∧ Rep.rep (V.minus x) vs l[i] ∧ ∀ j v d, j < Rep.sz α → Rep.rep (V.minus x) (vs.set j v) d →
      canSet V ((ad.add (i * Rep.sz α)).add j) 1 ∧ Buf (V.sets ((ad.add (i * Rep.sz α)).add j) [v]) x e (Rep.sz α) (putL cs (i * Rep.sz α + j) [v]) ∧ repL ((V.sets ((ad.add (i * Rep.sz α)).add j) [v]).minus x) (putL cs (i * Rep.sz α + j) [v]) (l.set i d) ∧ (V.minus x).Le ((V.sets ((ad.add (i * Rep.sz α)).add j) [v]).minus x) := by
  have hn : x.n = l.length := Nat.eq_of_mul_eq_mul_right (Rep.pos (α := α)) (h.len.symm.trans hr.len)
  obtain ⟨vs, hv, hg⟩ := hr.get i hi
  have hvl := Rep.len hv
  have hle := Nat.mul_le_mul_right (Rep.sz α) (show i + 1 ≤ x.n by omega)
  rw [Nat.add_mul] at hle
  have hcl := h.len
  rcases h.own with ⟨h1, h2⟩ | ⟨r, all, h1, h2, h3, h4⟩
  · have := h.le; omega
  · refine ⟨_, vs, h1, ?_, hv, fun j v d hj hd => ?_⟩
    · rw [addr0_add]
      refine cellsAt_of_see h2 fun j v hj => ?_
      have := hg j v hj
      rw [← h4, List.getElem?_take] at this
      split at this
      · simpa using this
      · cases this
    · rw [Addr.add_add]
      obtain ⟨a, b, c⟩ := h.set (off := i * Rep.sz α + j) (vs := [v]) (by simp; omega) (by simp) h1
      refine ⟨a, b, ?_, c⟩
      rw [← putL_mid hg (by omega) (by omega)]
      exact (hr.mono c).set (Rep.mono c hd) hi
/-- An element in a new block, appended to a row of one's own. -/
theorem app0 {α : Type} [Rep α] {V V0 : View} {r : Nat} {x : Sl} {e : TypeId} {bytes : Nat} {zero : List Value} {cs vs : List Value} {l : List α} {d : α} {C : Sl → View → Prop} {ob : Obj} {te : TypeId}
    (hz : zero.length = Rep.sz α) (hb : Buf V x e (Rep.sz α) cs) (hr : repL (V.minus x) cs l) (hd : Rep.rep (V.minus x) vs d) (hle : V0.Le (V.minus x)) (hnew : V.size ≤ r) (hob : ob = .cells ⟨vs⟩ te (0, 0))
    (hm : (x.n + 1) * bytes ≤ 140737488355328) (hm2 : x.n + 1 ≤ 140737488355328)
    (hC : ∀ s V' cs', Buf V' s e (Rep.sz α) cs' → repL (V'.minus s) cs' (l ++ [d]) → V0.Le (V'.minus s) → C s V') :
    apV (V.put r ob) e (Rep.sz α) bytes zero x (.slice (some ⟨r, 0, none⟩) 1 1) C := by
  subst hob
  have hfr : V.see r = none := View.see_none_of_ge hnew
  have hvl : vs.length = Rep.sz α := Rep.len hd
  refine apV_buf hz (hb.put hfr) (src := vs) (m := 1) ⟨rfl, rowAt_new (View.see_put_same _ _ _) (by rw [Nat.one_mul]; exact hvl)⟩ (by rw [Nat.one_mul]; exact hvl) (Rep.one hd) hm hm2 fun s V' hb' _ hle' => ?_
  have h1 : (V.minus x).Le (V'.minus s) := (put_minus_le hfr).trans hle'
  exact hC s V' _ hb' ((hr.mono h1).snoc (Rep.mono h1 hd)) (hle.trans h1)
/-- An element appended to a row of one's own that stands beside another one. -/
theorem app0b {α : Type} [Rep α] {V V0 : View} {x y : Sl} {e e' : TypeId} {bytes sz' : Nat} {zero : List Value} {cs vs ds : List Value} {l : List α} {d : α} {C : Sl → View → Prop} {r : Nat}
    (hz : zero.length = Rep.sz α) (hb : Buf V x e (Rep.sz α) cs) (hy : Buf (V.minus x) y e' sz' ds) (hr : repL V0 cs l) (hd : Rep.rep V0 vs d) (hle : V0.Le ((V.minus x).minus y)) (hrow : rowAt V (some ⟨r, 0, none⟩) (1 * Rep.sz α) vs)
    (hm : (l.length + 1) * bytes ≤ 140737488355328) (hm2 : l.length + 1 ≤ 140737488355328)
    (hC : ∀ s V', Buf V' s e (Rep.sz α) (cs ++ vs) → Buf (V'.minus s) y e' sz' ds → repL V0 (cs ++ vs) (l ++ [d]) → V0.Le ((V'.minus s).minus y) → C s V') :
    apV V e (Rep.sz α) bytes zero x (.slice (some ⟨r, 0, none⟩) 1 1) C := by
  have hvl : vs.length = Rep.sz α := Rep.len hd
  have hn : x.n = l.length := Nat.eq_of_mul_eq_mul_right (Rep.pos (α := α)) (hb.len.symm.trans hr.len)
  refine apV_buf hz hb (src := vs) (m := 1) ⟨rfl, hrow⟩ (by rw [Nat.one_mul]; exact hvl) (Rep.one hd) (by rw [hn]; exact hm) (by rw [hn]; exact hm2) fun s V' hb' _ hle' => ?_
  exact hC s V' hb' (hy.mono hle') (hr.snoc hd) (hle.trans (minus_mono hle' y))
end Go.Proofs.YtgkmcnafkhdlnaaGreat
/- Steps that write some blocks alone; what stands beside one's own blocks. -/
namespace Go.Proofs.YtgkmcnafkhdlnaaGreat
open Go
open Classical in
/-- V without the blocks of O. -/
noncomputable def View.sans (V : View) (O : Nat → Prop) : View := ⟨V.size, fun i => if O i then none else V.see i, V.out, fun i o h => by
  by_cases e : O i
  · rw [if_pos e] at h; cases h
  · rw [if_neg e] at h; exact V.lt i o h⟩
theorem sans_no {V : View} {O : Nat → Prop} {i : Nat} (h : ¬ O i) : (V.sans O).see i = V.see i := by unfold View.sans; simp only; rw [if_neg h]
theorem sans_yes {V : View} {O : Nat → Prop} {i : Nat} (h : O i) : (V.sans O).see i = none := by unfold View.sans; simp only; rw [if_pos h]
theorem sans_le (V : View) (O : Nat → Prop) : (V.sans O).Le V := ⟨Nat.le_refl _, fun i o h => by
  by_cases e : O i
  · rw [sans_yes e] at h; cases h
  · rwa [sans_no e] at h, rfl⟩
theorem sans_mono {V : View} {O O' : Nat → Prop} (h : ∀ i, O' i → O i) : (V.sans O).Le (V.sans O') := ⟨Nat.le_refl _, fun i o hi => by
  by_cases e : O i
  · rw [sans_yes e] at hi; cases hi
  · rw [sans_no e] at hi; rw [sans_no fun e' => e (h i e')]; exact hi, rfl⟩
/-- V' is V, but for blocks of B. -/
structure Wr (B : Nat → Prop) (V V' : View) : Prop where
  size : V.size ≤ V'.size
  rest : ∀ i o, ¬ B i → V.see i = some o → V'.see i = some o
  out : V'.out = V.out
theorem Wr.of {B : Nat → Prop} {V V' : View} (h : V.Le V') : Wr B V V' := ⟨h.size, fun i o _ => h.see i o, h.out⟩
theorem Wr.refl {B : Nat → Prop} {V : View} : Wr B V V := .of (View.Le.refl _)
theorem Wr.trans {B : Nat → Prop} {V V1 V2 : View} (h : Wr B V V1) (k : Wr B V1 V2) : Wr B V V2 := ⟨Nat.le_trans h.size k.size, fun i o a b => k.rest i o a (h.rest i o a b), k.out.trans h.out⟩
theorem Wr.weaken {B B' : Nat → Prop} {V V' : View} (h : Wr B V V') (hB : ∀ i, B i → B' i ∨ V.see i = none) : Wr B' V V' :=
  ⟨h.size, fun i o a b => h.rest i o (fun hi => (hB i hi).elim a (fun e => by rw [e] at b; cases b)) b, h.out⟩
theorem Wr.imp {B B' : Nat → Prop} {V V' : View} (h : Wr B V V') (hB : ∀ i, B i → B' i) : Wr B' V V' := h.weaken fun i hi => .inl (hB i hi)
theorem Wr.le {B : Nat → Prop} {V V' : View} (h : Wr B V V') (hB : ∀ i, B i → V.see i = none) : V.Le V' :=
  ⟨h.size, fun i o ho => h.rest i o (fun hi => by rw [hB i hi] at ho; cases ho) ho, h.out⟩
theorem Wr.put {B : Nat → Prop} {V : View} {r : Nat} {o : Obj} (h : B r ∨ V.see r = none) : Wr B V (V.put r o) :=
  ⟨Nat.le_max_left _ _, fun i o' hb hi => by
    have hne : i ≠ r := by
      rintro rfl
      rcases h with h | h
      · exact hb h
      · rw [h] at hi; cases hi
    rw [View.see_put_ne _ _ hne]; exact hi, rfl⟩
theorem Wr.hide {V V' : View} {r : Nat} (h : (V.hide r).Le V') : Wr (· = r) V V' := ⟨h.size, fun i o a b => h.see i o (by rw [hide_see, if_neg a]; exact b), h.out⟩
theorem Wr.minus {V V' : View} {x : Sl} (h : (V.minus x).Le V') : Wr (fun i => ∃ a, x.a = some a ∧ a.block = i) V V' := ⟨by have := h.size; unfold View.minus at this; split at this <;> exact this, fun i o a b => h.see i o (by
  unfold View.minus
  split
  · exact b
  · rename_i ad ha; rw [hide_see, if_neg fun e => a ⟨ad, ha, e.symm⟩]; exact b), by have := h.out; unfold View.minus at this; split at this <;> exact this⟩
theorem Wr.sans {B O : Nat → Prop} {V V' : View} (h : Wr B V V') (hB : ∀ i, B i → O i) : (V.sans O).Le (V'.sans O) := ⟨h.size, fun i o hi => by
  by_cases e : O i
  · rw [sans_yes e] at hi; cases hi
  · rw [sans_no e] at hi ⊢; exact h.rest i o (fun hb => e (hB i hb)) hi, h.out⟩
/-- Further blocks become one's own. -/
theorem Wr.sans' {B O O' : Nat → Prop} {V V' : View} (h : Wr B V V') (hB : ∀ i, B i → O i) (hO : ∀ i, O' i → O i ∨ V.see i = none) : (V.sans O).Le (V'.sans O') := ⟨h.size, fun i o hi => by
  by_cases e : O i
  · rw [sans_yes e] at hi; cases hi
  · rw [sans_no e] at hi
    rw [sans_no fun e' => (hO i e').elim e fun k => by rw [k] at hi; cases hi]
    exact h.rest i o (fun hb => e (hB i hb)) hi, h.out⟩
theorem sans_mono_le {O : Nat → Prop} {V V' : View} (h : V.Le V') : (V.sans O).Le (V'.sans O) := (Wr.of (B := fun _ => False) h).sans fun _ h => h.elim
/-- What needs nothing of O is called beside O. -/
theorem CallV.apart {P : Program} {f : FuncId} {args : Array Value} {O : Nat → Prop} {V : View} {K : Value → View → Prop} (hO : ∀ i, O i → V.see i ≠ none) (h : CallV P f args (V.sans O) fun r U' => K r U' ∧ (V.sans O).Le U') :
    CallV P f args V fun r V' => ∃ U', K r U' ∧ (V.sans O).Le U' ∧ U'.Le (V'.sans O) ∧ V.Le V' := by
  refine (CallV.frameG (sans_le V O) h).mono ?_
  rintro r V' ⟨U', h1, h2, h3, h4, h5⟩
  refine ⟨U', h1, h2, ⟨h3.size, fun i o hi => ?_, h3.out⟩, h4⟩
  have hn : ¬ O i := by
    intro e
    cases hs : V.see i with
    | none => exact hO i e hs
    | some o' => rw [h5 i o' (sans_yes e) hs] at hi; cases hi
  rw [sans_no hn]; exact h3.see _ _ hi
/-! ### boxes -/
theorem bx {V : View} {p : Nat} {cs : List Value} {e : TypeId} {f : Nat × Nat} (h : V.see p = some (.cells ⟨cs⟩ e f)) (j : Nat) {v : Value} (hj : cs[j]? = some v) : V.cell? ((⟨p, 0, none⟩ : Addr).add j) = some v := by
  rw [addr0_add]; exact cell_of_see h (by simpa using hj)
theorem bxc {V : View} {p : Nat} {cs : List Value} {e : TypeId} (h : V.see p = some (.cells ⟨cs⟩ e (0, 0))) (j k : Nat) (hj : j + k ≤ cs.length) : canSet V ((⟨p, 0, none⟩ : Addr).add j) k := by
  rw [addr0_add]; exact canSet_of h (by omega)
theorem bxe {V : View} {p : Nat} {cs : List Value} {e : TypeId} (h : V.see p = some (.cells ⟨cs⟩ e (0, 0))) (j : Nat) (vs : List Value) : V.sets ((⟨p, 0, none⟩ : Addr).add j) vs = V.put p (.cells ⟨putL cs j vs⟩ e (0, 0)) := by
  rw [addr0_add, sets_see h, Nat.zero_add]
theorem View.put_put (V : View) (p : Nat) (o o' : Obj) : (V.put p o).put p o' = V.put p o' := by
  unfold View.put
  congr 1
  · simp
  · funext j
    by_cases h : j = p
    · simp [h]
    · simp [h]
end Go.Proofs.YtgkmcnafkhdlnaaGreat
/- Contracts of bytes.Reader. -/
namespace Go.Proofs.YtgkmcnafkhdlnaaGreat
open Go
/-- What a reader's cells are. -/
def RdC (V : View) (p : Nat) (s : Sl) (e : Int) : Prop := ∃ ty, V.see p = some (.cells ⟨[.slice s.a s.n s.c, .int .i64 e]⟩ ty (0, 0))
/-- A reader: what is left; none: there was an error. -/
def Rd (V : View) (p : Nat) (st : Option (List UInt8)) : Prop :=
  ∃ (s : Sl) (e : Int) (bs : List UInt8), RdC V p s e ∧ SlR (V.hide p) s bs ∧ bs.length ≤ 140737488350000 ∧ (st = some bs ∧ e = 0 ∨ st = none ∧ e = 5)
theorem RdC.c0 {V : View} {p : Nat} {s : Sl} {e : Int} (h : RdC V p s e) : V.cell? ((⟨p, 0, none⟩ : Addr).add 0) = some (.slice s.a s.n s.c) := by
  obtain ⟨ty, h⟩ := h
  exact cell_of_see h rfl
theorem RdC.c1 {V : View} {p : Nat} {s : Sl} {e : Int} (h : RdC V p s e) : V.cell? ((⟨p, 0, none⟩ : Addr).add 1) = some (.int .i64 e) := by
  obtain ⟨ty, h⟩ := h
  exact cell_of_see h rfl
theorem RdC.set1 {V : View} {p : Nat} {s : Sl} {e : Int} (h : RdC V p s e) (e' : Int) : canSet V ((⟨p, 0, none⟩ : Addr).add 1) 1 ∧ RdC (V.sets ((⟨p, 0, none⟩ : Addr).add 1) [.int .i64 e']) p s e' ∧ (V.hide p).Le ((V.sets ((⟨p, 0, none⟩ : Addr).add 1) [.int .i64 e']).hide p) := by
  obtain ⟨ty, h⟩ := h
  have e1 : (⟨p, 0, none⟩ : Addr).add 1 = ⟨p, 1, none⟩ := rfl
  rw [e1, sets_see h]
  exact ⟨canSet_of h (show 1 + 1 ≤ 2 by decide), ⟨ty, by rw [View.see_put_same]; rfl⟩, hide_le_put_hide p _⟩
theorem RdC.set0 {V : View} {p : Nat} {s : Sl} {e : Int} (h : RdC V p s e) (s' : Sl) : canSet V ((⟨p, 0, none⟩ : Addr).add 0) 1 ∧ RdC (V.sets ((⟨p, 0, none⟩ : Addr).add 0) [.slice s'.a s'.n s'.c]) p s' e ∧ (V.hide p).Le ((V.sets ((⟨p, 0, none⟩ : Addr).add 0) [.slice s'.a s'.n s'.c]).hide p) := by
  obtain ⟨ty, h⟩ := h
  have e1 : (⟨p, 0, none⟩ : Addr).add 0 = ⟨p, 0, none⟩ := rfl
  rw [e1, sets_see h]
  exact ⟨canSet_of h (show 0 + 1 ≤ 2 by decide), ⟨ty, by rw [View.see_put_same]; rfl⟩, hide_le_put_hide p _⟩
theorem Rd.mono {V V' : View} {p : Nat} {st : Option (List UInt8)} (h : Rd V p st) (hV : V.Le V') : Rd V' p st := by
  obtain ⟨s, e, bs, ⟨ty, h1⟩, h2, h3, h4⟩ := h
  have hh : (V.hide p).Le (V'.hide p) := by
    refine ⟨hV.size, fun i o ho => ?_, hV.out⟩
    unfold View.hide at *
    simp only at *
    split at ho
    · cases ho
    · rename_i hne; rw [if_neg hne]; exact hV.see i o ho
  exact ⟨s, e, bs, ⟨ty, hV.see _ _ h1⟩, h2.mono hh, h3, h4⟩
theorem off_ok {p : Nat} {st : Option (List UInt8)} {V : View} (h : Rd V p st) : CallV Tryz.prog 120 ⟨[.pointer (some ⟨p, 0, none⟩)]⟩ V fun r V' => r = .bool st.isNone ∧ V' = V := by
  refine f120_x ?_
  unfold f120_n
  obtain ⟨s, e, bs, h1, _, _, h4⟩ := h
  refine joinP_cut (fun b V' => b.1 = st.isNone ∧ V' = V) (br_intro (fun h => absurd h (by simp)) fun _ => ⟨_, rfl, _, h1.c1, ?_, rfl⟩) (fun b V' h => ⟨by rw [h.1], h.2⟩)
  rcases h4 with ⟨rfl, rfl⟩ | ⟨rfl, rfl⟩ <;> rfl
theorem err_ok {p : Nat} {st : Option (List UInt8)} {V : View} (h : Rd V p st) : CallV Tryz.prog 82 ⟨[.pointer (some ⟨p, 0, none⟩)]⟩ V fun r V' => r = .int .i64 (if st.isNone then 5 else 0) ∧ V' = V := by
  refine f82_x ?_
  unfold f82_n
  obtain ⟨s, e, bs, h1, _, _, h4⟩ := h
  refine br_intro (fun h => absurd h (by simp)) fun _ => ⟨_, rfl, _, h1.c1, ?_, rfl⟩
  rcases h4 with ⟨rfl, rfl⟩ | ⟨rfl, rfl⟩ <;> rfl
theorem left_ok {p : Nat} {bs : List UInt8} {V : View} (h : Rd V p (some bs)) : CallV Tryz.prog 83 ⟨[.pointer (some ⟨p, 0, none⟩)]⟩ V fun r V' => r = .int .i64 bs.length ∧ V' = V := by
  refine f83_x ?_
  unfold f83_n
  obtain ⟨s, e, bs', h1, h2, _, h4⟩ := h
  refine br_intro (fun h => absurd h (by simp)) fun _ => ⟨_, rfl, s, h1.c0, ?_, rfl⟩
  rcases h4 with ⟨h4, rfl⟩ | ⟨h4, _⟩
  · cases h4; rw [h2.n]
  · cases h4
theorem newReader_ok {s : Sl} {l : List UInt8} {V : View} (h : SlR V s l) (hl : l.length ≤ 140737488350000) : CallV Tryz.prog 79 ⟨[.slice s.a s.n s.c]⟩ V fun r V' => ∃ p, r = .pointer (some ⟨p, 0, none⟩) ∧ Rd V' p (some l) ∧ V.Le (V'.hide p) := by
  refine f79_x ?_
  unfold f79_n
  refine (clone8_ok h (by omega)).mono ?_
  rintro r V1 ⟨x, rfl, hx⟩
  refine ⟨x, rfl, fun b hb => ⟨b, rfl, ?_, ?_⟩⟩
  · refine ⟨x, 0, l, ⟨_, View.see_put_same _ _ _⟩, ?_, hl, .inl ⟨rfl, rfl⟩⟩
    refine hx.slR.mono ⟨Nat.le_max_left _ _, fun i o ho => ?_, rfl⟩
    have hne : i ≠ b := fun e => by rw [e, hb] at ho; cases ho
    show (if i = b then none else View.see (V1.put b _) i) = some o
    rw [if_neg hne, View.see_put_ne V1 _ hne]; exact ho
  · refine ⟨Nat.le_trans hx.vle.size (Nat.le_max_left _ _), fun i o ho => ?_, hx.vle.out⟩
    have ho1 := hx.vle.see i o ho
    have hne : i ≠ b := fun e => by rw [e, hb] at ho1; cases ho1
    show (if i = b then none else View.see (V1.put b _) i) = some o
    rw [if_neg hne, View.see_put_ne V1 _ hne]; exact ho1
/-- What 'number' answers. -/
def numR (most : Nat) (b : List UInt8) : Int × Nat := match numP most b with
  | none => (0, 0)
  | some (n, r) => (n, b.length - r.length)
theorem numGo_len (most : Nat) : ∀ (g m : Nat) (b : List UInt8) (n : Nat) (r : List UInt8), numGo most g m b = some (n, r) → ∃ k, 1 ≤ k ∧ k ≤ b.length ∧ r = b.drop k
  | 0, m, b, n, r, h => by simp [numGo] at h
  | g + 1, m, [], n, r, h => by simp [numGo] at h
  | g + 1, m, c :: b, n, r, h => by
    rw [numGo_cons] at h
    split at h
    · obtain ⟨k, h1, h2, h3⟩ := numGo_len most g _ b n r h
      exact ⟨k + 1, by omega, by simp; omega, by rw [h3]; rfl⟩
    · split at h
      · cases h
      · cases h; exact ⟨1, by omega, by simp, rfl⟩
theorem numP_len {most : Nat} {b : List UInt8} {n : Nat} {r : List UInt8} (h : numP most b = some (n, r)) : ∃ k, 1 ≤ k ∧ k ≤ b.length ∧ r = b.drop k := by
  unfold numP at h
  split at h
  · cases h
  · split at h
    · cases h
    · exact numGo_len most 6 0 _ n r h
theorem numP_le {most : Nat} {b : List UInt8} {n : Nat} {r : List UInt8} (h : numP most b = some (n, r)) : n ≤ most := (numL_numP h).1
theorem number_ok {s : Sl} {l : List UInt8} {most : Nat} {V : View} (h : SlR V s l) (_hm : most ≤ 1099511627776) : CallV Tryz.prog 121 ⟨[.slice s.a s.n s.c, .int .i64 most]⟩ V fun r V' => r = .tuple ⟨[.int .i64 (numR most l).1, .int .i64 (numR most l).2]⟩ ∧ V' = V := by
  refine f121_x ?_
  unfold f121_n
  have hn := h.n; have hc := h.c
  have e1 : (if (6 : Int) < (s.n : Int) then (6 : Int) else (s.n : Int)) = ((min 6 l.length : Nat) : Int) := by rw [hn]; split <;> omega
  have e3 : (if s.c = 0 then s.a else Option.map (fun (x : Addr) => x.add 0) s.a) = s.a := by rw [map_add_zero]; simp
  rw [e1, e3]
  simp only [Int.toNat_natCast, Nat.sub_zero]
  refine ⟨by omega, by omega, by omega, ?_⟩
  refine loop2 (k := .int .i64) (l := .int .i64) (fun (x : Int) (i : Int) V' => V' = V ∧ ∃ m k : Nat, x = m ∧ i = k ∧ k ≤ min 6 l.length ∧ m < 128 ^ k ∧ (k = 0 ∨ numP most l = numGo most (6 - k) m (l.drop k))) (fun _ (i : Int) _ => 7 - i.toNat) ⟨rfl, 0, 0, rfl, rfl, by omega, by decide, .inl rfl⟩ ?_
  rintro (x : Int) (i : Int) V' ⟨rfl, m, k, rfl, rfl, hk, hmk, hnum⟩
  have hpow : (128 : Nat) ^ k ≤ 4398046511104 := Nat.le_trans (Nat.pow_le_pow_right (by decide) (show k ≤ 6 by omega)) (by decide)
  refine br_intro (fun hlt => ?_) (fun hge => ?_)
  · have hlt : k < min 6 l.length := by simpa using hlt
    obtain ⟨ad, hx, ha, hcell⟩ := h.u8 (x := (k : Int)) (by omega) (by omega)
    refine ⟨by omega, by omega, ad, ha, _, hcell, ?_⟩
    have hx' : k < l.length := by omega
    have e2 : l[((k : Int)).toNat] = l[k] := by congr 1
    rw [e2]
    have hdrop : l.drop k = l[k] :: l.drop (k + 1) := (List.getElem_cons_drop (h := hx')).symm
    generalize l[k] = c at *
    have hc256 : c.toNat < 256 := c.toNat_lt
    refine br_intro (fun hb => ⟨?_, rfl⟩) (fun hb => ?_)
    · have hb2 : k = 0 ∧ c.toNat = 128 := by simp at hb; omega
      obtain ⟨rfl, hb2⟩ := hb2
      have : numP most l = none := by
        rw [List.drop_zero] at hdrop
        rw [hdrop]
        unfold numP
        simp only
        rw [if_pos hb2]
      unfold numR
      rw [this]
      rfl
    · have hstep : numP most l = if 128 ≤ c.toNat then numGo most (6 - (k + 1)) (m * 128 + c.toNat % 128) (l.drop (k + 1)) else if most < m * 128 + c.toNat % 128 then none else some (m * 128 + c.toNat % 128, l.drop (k + 1)) := by
        have h6 : 6 - k = (6 - (k + 1)) + 1 := by omega
        rcases hnum with rfl | hnum
        · have hne : c.toNat ≠ 128 := fun e => by simp [e] at hb
          have hm0 : m = 0 := by simpa using hmk
          subst hm0
          rw [List.drop_zero] at hdrop
          have : numP most l = numGo most 6 0 l := by
            rw [hdrop]
            unfold numP
            simp only
            rw [if_neg hne]
          rw [this]
          conv => lhs; rw [hdrop]
          exact numGo_cons most 5 0 c _
        · rw [hnum, hdrop, h6, numGo_cons]
      have etm : Int.tmod (c.toNat : Int) 128 = ((c.toNat % 128 : Nat) : Int) := by rw [Int.tmod_eq_emod_of_nonneg (by omega)]; omega
      rw [etm]
      refine ⟨inI64 (by omega) (by omega), inI64 (by omega) (by omega), by decide, inI64 (by omega) (by omega), br_intro (fun h128 => ?_) (fun h128 => ?_)⟩
      · have h128 : 128 ≤ c.toNat := by have := of_decide_eq_true h128; omega
        rw [if_pos h128] at hstep
        refine ⟨inI64 (by omega) (by omega), ⟨rfl, m * 128 + c.toNat % 128, k + 1, by omega, by omega, by omega, by rw [Nat.pow_succ]; omega, .inr hstep⟩, by omega⟩
      · have h128 : ¬ 128 ≤ c.toNat := by have := of_decide_eq_false h128; omega
        rw [if_neg h128] at hstep
        refine br_intro (fun hgt => ⟨?_, rfl⟩) (fun hgt => ⟨inI64 (by omega) (by omega), ?_, rfl⟩)
        · rw [if_pos (by simp at hgt; omega)] at hstep
          unfold numR
          rw [hstep]
          rfl
        · rw [if_neg (by simp at hgt; omega)] at hstep
          unfold numR
          rw [hstep]
          simp only [List.length_drop]
          have e4 : l.length - (l.length - (k + 1)) = k + 1 := by omega
          rw [e4]
          congr 2
  · have hge : ¬ k < min 6 l.length := by simpa using hge
    refine ⟨?_, rfl⟩
    have : numP most l = none := by
      rcases hnum with rfl | hnum
      · have : l = [] := List.eq_nil_of_length_eq_zero (by omega)
        subst this; rfl
      · rw [hnum]
        by_cases h6 : k = 6
        · subst h6; simp [numGo]
        · have : l.drop k = [] := List.drop_of_length_le (by omega)
          rw [this]
          cases 6 - k <;> rfl
    unfold numR
    rw [this]
    rfl
/-- A reader's number. -/
def rdN (st : Option (List UInt8)) (most : Nat) : Int × Option (List UInt8) := match st with
  | none => (0, none)
  | some b => match numP most b with
    | none => (0, none)
    | some (n, r) => (n, some r)
def rdT (st : Option (List UInt8)) (most : Nat) : List UInt8 × Option (List UInt8) := match st with
  | none => ([], none)
  | some b => match textP most b with
    | none => ([], none)
    | some (t, r) => (t, some r)
theorem sub_from {V : View} {s : Sl} {l : List UInt8} (h : SlR V s l) {k : Nat} (hk : k ≤ l.length) : SlR V ⟨if s.c = k then s.a else Option.map (fun (x : Addr) => x.add (k * 1)) s.a, s.n - k, s.c - k⟩ (l.drop k) := by
  have := h.sub (i := k) (j := l.length) hk (Nat.le_refl _)
  rw [List.take_length] at this
  rw [h.n]
  exact this
theorem rdNumber_ok {p : Nat} {st : Option (List UInt8)} {most : Nat} {V : View} (h : Rd V p st) (hm : most ≤ 1099511627776) : CallV Tryz.prog 80 ⟨[.pointer (some ⟨p, 0, none⟩), .int .i64 most]⟩ V fun r V' => r = .int .i64 (rdN st most).1 ∧ Rd V' p (rdN st most).2 ∧ (V.hide p).Le (V'.hide p) := by
  refine f80_x ?_
  unfold f80_n
  refine (off_ok h).mono ?_
  rintro r V' ⟨rfl, rfl⟩
  refine ⟨_, rfl, ?_⟩
  obtain ⟨s, e, bs, h1, h2, h3, h4⟩ := h
  rcases h4 with ⟨rfl, rfl⟩ | ⟨rfl, rfl⟩
  · refine br_intro (fun h => absurd h (by simp)) fun _ => ?_
    refine ⟨_, rfl, s, h1.c0, (number_ok (h2.mono (View.hide_le _ _)) hm).mono ?_⟩
    rintro r V1 ⟨rfl, rfl⟩
    refine ⟨_, _, rfl, ?_⟩
    have hn := h2.n; have hc := h2.c
    cases hp : numP most bs with
    | none =>
      have hR : numR most bs = (0, 0) := by unfold numR; rw [hp]
      have hD : rdN (some bs) most = (0, none) := by simp only [rdN, hp]
      rw [hR, hD]
      obtain ⟨k1, k2, k3⟩ := h1.set1 5
      refine joinP_cut (fun _ V2 => RdC V2 p s 5 ∧ (V1.hide p).Le (V2.hide p)) (br_intro (fun _ => ⟨_, rfl, k1, k2, k3⟩) (fun h => absurd h (by decide))) ?_
      rintro ⟨⟩ V2 ⟨j1, j2⟩
      obtain ⟨m1, m2, m3⟩ := j1.set0 ⟨if s.c = 0 then s.a else Option.map (fun (x : Addr) => x.add (0 * 1)) s.a, s.n - 0, s.c - 0⟩
      refine ⟨_, rfl, s, j1.c0, by omega, by omega, by omega, _, rfl, m1, rfl, ⟨_, 5, bs, m2, ?_, h3, .inr ⟨rfl, rfl⟩⟩, j2.trans m3⟩
      have := (sub_from h2 (Nat.zero_le _)).mono (j2.trans m3)
      rw [List.drop_zero] at this
      exact this
    | some q =>
      obtain ⟨n, r⟩ := q
      obtain ⟨k, k1, k2, rfl⟩ := numP_len hp
      have hk : bs.length - (bs.drop k).length = k := by rw [List.length_drop]; omega
      have hR : numR most bs = ((n : Int), k) := by unfold numR; rw [hp]; simp only; rw [hk]
      have hD : rdN (some bs) most = ((n : Int), some (bs.drop k)) := by simp only [rdN, hp]
      rw [hR, hD]
      refine joinP_cut (fun _ V2 => V2 = V1) (br_intro (fun h => absurd h (by simp; omega)) (fun _ => rfl)) ?_
      rintro ⟨⟩ V2 rfl
      obtain ⟨m1, m2, m3⟩ := h1.set0 ⟨if s.c = k then s.a else Option.map (fun (x : Addr) => x.add (k * 1)) s.a, s.n - k, s.c - k⟩
      refine ⟨_, rfl, s, h1.c0, by omega, by omega, by omega, _, rfl, m1, rfl, ⟨_, 0, bs.drop k, m2, (sub_from h2 k2).mono m3, by simp; omega, .inl ⟨rfl, rfl⟩⟩, m3⟩
  · refine br_intro (fun _ => ⟨rfl, ⟨s, 5, bs, h1, h2, h3, .inr ⟨rfl, rfl⟩⟩, View.Le.refl _⟩) (fun h => absurd h (by simp))
/-- A call that does not need block p leaves it as it was. -/
theorem CallV.beside {P : Program} {f : FuncId} {args : Array Value} {V : View} {p : Nat} {K : Value → View → Prop} {o : Obj} (h : CallV P f args (V.hide p) K) (ho : V.see p = some o) :
    CallV P f args V fun r V' => ∃ U', K r U' ∧ U'.Le (V'.hide p) ∧ V'.see p = some o := by
  refine (CallV.frame (View.hide_le V p) h).mono ?_
  rintro r V' ⟨U', hk, hle, hrest⟩
  have hp : (V.hide p).see p = none := by simp [View.hide]
  obtain ⟨h1, h2⟩ := hrest p o hp ho
  refine ⟨U', hk, ⟨hle.size, fun i x hx => ?_, hle.out⟩, h1⟩
  have hne : i ≠ p := fun e => by rw [e, h2] at hx; cases hx
  show (if i = p then none else View.see V' i) = some x
  rw [if_neg hne]; exact hle.see i x hx
theorem rdText_ok {p : Nat} {st : Option (List UInt8)} {most : Nat} {V : View} (h : Rd V p st) (hm : most ≤ 1099511627776) : CallV Tryz.prog 81 ⟨[.pointer (some ⟨p, 0, none⟩), .int .i64 most]⟩ V fun r V' =>
    ∃ x : Sl, r = .slice x.a x.n x.c ∧ SlR (V'.hide p) x (rdT st most).1 ∧ Rd V' p (rdT st most).2 ∧ (V.hide p).Le (V'.hide p) := by
  refine f81_x ?_
  unfold f81_n
  refine (off_ok h).mono ?_
  rintro r V' ⟨rfl, rfl⟩
  refine ⟨_, rfl, ?_⟩
  obtain ⟨s, e, bs, h1, h2, h3, h4⟩ := h
  rcases h4 with ⟨rfl, rfl⟩ | ⟨rfl, rfl⟩
  · refine br_intro (fun h => absurd h (by simp)) fun _ => ?_
    refine ⟨_, rfl, s, h1.c0, (number_ok (h2.mono (View.hide_le _ _)) hm).mono ?_⟩
    rintro r V1 ⟨rfl, rfl⟩
    refine ⟨_, _, rfl, ?_⟩
    have hn := h2.n; have hc := h2.c
    have bad : rdT (some bs) most = ([], none) → ∃ (a : Addr), (some ⟨p, 0, none⟩ : Option Addr) = some a ∧ canSet V1 (Addr.add a 1) 1 ∧
        ∃ x : Sl, Value.slice none 0 0 = .slice x.a x.n x.c ∧ SlR ((V1.sets (Addr.add a 1) [.int .i64 5]).hide p) x (rdT (some bs) most).1 ∧ Rd (V1.sets (Addr.add a 1) [.int .i64 5]) p (rdT (some bs) most).2 ∧ (V1.hide p).Le ((V1.sets (Addr.add a 1) [.int .i64 5]).hide p) := by
      intro hb
      rw [hb]
      obtain ⟨k1, k2, k3⟩ := h1.set1 5
      exact ⟨_, rfl, k1, ⟨none, 0, 0⟩, rfl, SlR.nil _ _ _, ⟨s, 5, bs, k2, h2.mono k3, h3, .inr ⟨rfl, rfl⟩⟩, k3⟩
    cases hp : numP most bs with
    | none =>
      have hb : rdT (some bs) most = ([], none) := by simp only [rdT, textP, hp]
      have hR : numR most bs = (0, 0) := by unfold numR; rw [hp]
      rw [hR]
      refine joinP_cut (fun b V2 => b.1 = true ∧ V2 = V1) (br_intro (fun _ => ⟨rfl, rfl⟩) (fun h => absurd h (by decide))) ?_
      rintro ⟨b, ⟨⟩⟩ V2 ⟨hb1, hV⟩
      simp only at hb1 hV
      subst hb1 hV
      simp only [unc]
      exact br_intro (fun _ => bad hb) (fun h => absurd h (by decide))
    | some q =>
      obtain ⟨n, r⟩ := q
      obtain ⟨k, k1, k2, rfl⟩ := numP_len hp
      have hk : bs.length - (bs.drop k).length = k := by rw [List.length_drop]; omega
      have hnm := numP_le hp
      have hR : numR most bs = ((n : Int), k) := by unfold numR; rw [hp]; simp only; rw [hk]
      rw [hR]
      refine joinP_cut (fun b V2 => b.1 = decide (bs.length - k < n) ∧ V2 = V1) (br_intro (fun h => absurd h (by simp; omega)) (fun _ => ⟨_, rfl, s, h1.c0, inI64 (by omega) (by omega), ?_, rfl⟩)) ?_
      · show decide (((s.n : Int) - k) < n) = decide (bs.length - k < n)
        rw [hn]
        congr 1
        apply propext
        omega
      rintro ⟨b, ⟨⟩⟩ V2 ⟨hb1, hV⟩
      simp only at hb1 hV
      subst hb1 hV
      simp only [unc]
      refine br_intro (fun hlt => bad ?_) (fun hge => ?_)
      · have hlt : bs.length - k < n := by simpa using hlt
        simp only [rdT, textP, hp]
        rw [if_pos (by simp; omega)]
      · have hge : ¬ bs.length - k < n := by simpa using hge
        have hgood : rdT (some bs) most = ((bs.drop k).take n, some ((bs.drop k).drop n)) := by
          simp only [rdT, textP, hp]
          rw [if_neg (by simp; omega)]
        rw [hgood]
        have hsub := h2.sub (i := k) (j := k + n) (by omega) (by omega)
        have e1 : ((k : Int) + (n : Int)).toNat - ((k : Int)).toNat = (k + n) - k := by omega
        refine ⟨_, rfl, s, h1.c0, inI64 (by omega) (by omega), by omega, by omega, by omega, ?_⟩
        rw [e1]
        have hcl := clone8_ok hsub (by simp; omega)
        obtain ⟨ty, hsee⟩ := h1
        refine (CallV.beside hcl hsee).mono ?_
        rintro r V3 ⟨U, ⟨x, rfl, hx⟩, hU, hsee3⟩
        have hU2 : (V2.hide p).Le (V3.hide p) := hx.vle.trans hU
        obtain ⟨m1, m2, m3⟩ := RdC.set0 (V := V3) (p := p) (s := s) (e := 0) ⟨ty, hsee3⟩ ⟨if s.c = k + n then s.a else Option.map (fun (x : Addr) => x.add ((k + n) * 1)) s.a, s.n - (k + n), s.c - (k + n)⟩
        have e2 : ((k : Int) + (n : Int)).toNat = k + n := by omega
        rw [e2]
        refine ⟨x, rfl, _, rfl, s, RdC.c0 ⟨ty, hsee3⟩, inI64 (by omega) (by omega), by omega, by omega, by omega, _, rfl, m1, x, rfl, ?_, ⟨_, 0, (bs.drop k).drop n, m2, ?_, by simp; omega, .inl ⟨rfl, rfl⟩⟩, hU2.trans m3⟩
        · have h5 := (hx.slR.mono hU).mono m3
          rw [List.drop_take, show k + n - k = n by omega] at h5
          exact h5
        · have h6 := (sub_from h2 (k := k + n) (by omega)).mono (hU2.trans m3)
          rw [List.drop_drop]
          exact h6
  · refine br_intro (fun _ => ⟨⟨none, 0, 0⟩, rfl, SlR.nil _ _ _, ⟨s, 5, bs, h1, h2, h3, .inr ⟨rfl, rfl⟩⟩, View.Le.refl _⟩) (fun h => absurd h (by simp))
def laidS (p q : Int) (d : List UInt8) : List UInt8 := ((([] ++ numI p) ++ numI q) ++ textL d) ++ [90]
def mayS (p q : Int) (d : List UInt8) : Bool := decide (0 ≤ p ∧ p ≤ 60 ∧ 1 ≤ q ∧ q ≤ 1099511627776 ∧ d.length ≤ 2000 ∧ (laidS p q d).length ≤ 2000)
structure MayS (p q : Int) (d : List UInt8) : Prop where
  p0 : 0 ≤ p
  p1 : p ≤ 60
  q0 : 1 ≤ q
  q1 : q ≤ 1099511627776
  dl : d.length ≤ 2000
  ll : (laidS p q d).length ≤ 2000
theorem mayS_iff {p q : Int} {d : List UInt8} : mayS p q d = true ↔ MayS p q d :=
  ⟨fun h => let ⟨a, b, c, e, f, g⟩ := of_decide_eq_true h; ⟨a, b, c, e, f, g⟩, fun ⟨a, b, c, e, f, g⟩ => decide_eq_true ⟨a, b, c, e, f, g⟩⟩
theorem textL_len (d : List UInt8) : (textL d).length ≤ 7 + d.length := by
  unfold textL; rw [List.length_append]; have := numI_len (d.length : Int); omega
theorem laidS_len (p q : Int) (d : List UInt8) : (laidS p q d).length ≤ 22 + d.length := by
  unfold laidS
  have h1 := numI_len p; have h2 := numI_len q; have h3 := textL_len d
  simp only [List.length_append, List.length_cons, List.length_nil]; omega
theorem clampN_of {n : Int} (h0 : 0 ≤ n) (h1 : n ≤ 1099511627776) : (clampN n : Int) = n := by unfold clampN; omega
theorem textP_textL {d : List UInt8} {most : Nat} (h : d.length ≤ most) (h1 : d.length ≤ 1099511627776) (r : List UInt8) : textP most (textL d ++ r) = some (d, r) := by
  have hc : clampN (d.length : Int) = d.length := by have := clampN_of (n := (d.length : Int)) (by omega) (by omega); omega
  unfold textP textL numI
  rw [hc, List.append_assoc, numP_numL h1 h]
  simp only
  rw [if_neg (by rw [List.length_append]; omega)]
  simp
/-- What bytes say: page, Seq, data; or nothing. -/
def parseS (b : List UInt8) : Option (Int × Int × List UInt8) :=
  let x := rdN (some b) 60
  let y := rdN x.2 1099511627776
  let z := rdT y.2 2000
  if z.2 = some [90] ∧ mayS x.1 y.1 z.1 = true then some (x.1, y.1, z.1) else none
theorem parseS_laidS {p q : Int} {d : List UInt8} (h : MayS p q d) : parseS (laidS p q d) = some (p, q, d) := by
  obtain ⟨p0, p1, q0, q1, hd, hl⟩ := h
  have e1 : rdN (some (laidS p q d)) 60 = (p, some (numI q ++ (textL d ++ [90]))) := by
    unfold rdN laidS numI
    simp only [List.nil_append, List.append_assoc]
    have hc := clampN_of p0 (by omega)
    rw [numP_numL (by omega) (by omega)]
    simp only [hc]
  have e2 : rdN (some (numI q ++ (textL d ++ [90]))) 1099511627776 = (q, some (textL d ++ [90])) := by
    unfold rdN numI
    have hc := clampN_of (n := q) (by omega) q1
    simp only
    rw [numP_numL (by omega) (by omega)]
    simp only [hc]
  have e3 : rdT (some (textL d ++ [90])) 2000 = (d, some [90]) := by
    unfold rdT
    simp only
    rw [textP_textL hd (by omega)]
  unfold parseS
  simp only [e1, e2, e3]
  rw [if_pos ⟨trivial, mayS_iff.2 ⟨p0, p1, q0, q1, hd, hl⟩⟩]
theorem laidS_ne (p q : Int) (d : List UInt8) : 1 ≤ (laidS p q d).length := by unfold laidS; rw [List.length_append]; simp
structure Cfg where
  bl : Int
  pg : Int
  sp : Int
  da : Int
  we : Int
def cfgL (g : Cfg) : List Value := [.int .i64 g.bl, .int .i64 g.pg, .int .i64 g.sp, .int .i64 g.da, .int .i64 g.we]
structure CfgI (g : Cfg) : Prop where
  bl : inI .i64 g.bl
  pg : inI .i64 g.pg
  sp : inI .i64 g.sp
  da : inI .i64 g.da
  we : inI .i64 g.we
def mayC (g : Cfg) : Bool := decide (3 ≤ g.bl ∧ g.bl ≤ 64 ∧ 2 ≤ g.pg ∧ g.pg ≤ 32 ∧ 0 ≤ g.sp ∧ g.sp ≤ 6 ∧ 1 ≤ g.da ∧ g.da ≤ 60 ∧ 2 ≤ g.we ∧ g.we ≤ 50)
def needC (g : Cfg) : Int := if mayC g then g.da + 8 else 0
def roomC (g : Cfg) (bad : Int) : Int := if mayC g ∧ 0 ≤ bad ∧ bad ≤ g.bl then max (g.bl - bad - g.sp - 1) 0 * g.pg else 0
def fitsC (g : Cfg) (bad : Int) : Bool := mayC g && decide (0 ≤ bad ∧ bad ≤ g.bl) && decide (needC g ≤ roomC g bad)
def floorC (g : Cfg) (bad : Int) : Int := if mayC g ∧ 0 ≤ bad then max (g.sp - bad + 1) 0 else 0
structure Blk where
  bad : Bool
  nxt : Int
  cnt : Int
  pages : List (List UInt8)
instance : Inhabited Blk := ⟨⟨false, 0, 0, []⟩⟩
instance : Rep Blk where
  sz := 4
  pos := by decide
  rep V vs x := ∃ s : Sl, vs = [.bool x.bad, .int .i64 x.nxt, .int .i64 x.cnt, .slice s.a s.n s.c] ∧ inI .i64 x.nxt ∧ inI .i64 x.cnt ∧ SlR V s x.pages
  len h := by obtain ⟨s, h, _⟩ := h; rw [h]; rfl
  one h := by obtain ⟨s, h, _⟩ := h; rw [h]; rfl
  mono hV h := let ⟨s, h, a, b, c⟩ := h; ⟨s, h, a, b, c.mono hV⟩
/-- A block of a chip: the row of its pages is the chip's own, and stands in block .1. -/
abbrev Pb := Nat × Blk
instance : Rep Pb where
  sz := 4
  pos := by decide
  rep _ vs x := vs = [.bool x.2.bad, .int .i64 x.2.nxt, .int .i64 x.2.cnt, .slice (some ⟨x.1, 0, none⟩) x.2.pages.length x.2.pages.length] ∧ inI .i64 x.2.nxt ∧ inI .i64 x.2.cnt
  len h := by rw [h.1]; rfl
  one h := by rw [h.1]; rfl
  mono _ h := h
theorem SlR.blk {V : View} {s : Sl} {l : List Blk} (h : SlR V s l) {x : Int} (h0 : 0 ≤ x) (h1 : x < s.n) :
    ∃ ad, ∃ y : Sl, ∃ hx : x.toNat < l.length, s.a = some ad ∧ cellsAt V (ad.add (x.toNat * 4)) [.bool l[x.toNat].bad, .int .i64 l[x.toNat].nxt, .int .i64 l[x.toNat].cnt, .slice y.a y.n y.c] ∧ inI .i64 l[x.toNat].nxt ∧ inI .i64 l[x.toNat].cnt ∧ SlR V y l[x.toNat].pages := by
  obtain ⟨ad, vs, hx, ha, hc, y, rfl, h2, h3, h4⟩ := h.ld h0 h1
  exact ⟨ad, y, hx, ha, hc, h2, h3, h4⟩
structure Chp where
  bl : List Pb
  pages : Nat
  reads : Int
  progs : Int
  erases : Int
  fail : Int
  worn : Int
  cut : Int
  keep : Int
  down : Bool
def chpL (x : Sl) (C : Chp) : List Value := [.slice x.a x.n x.c, .int .i64 C.pages, .int .i64 C.reads, .int .i64 C.progs, .int .i64 C.erases, .int .i64 C.fail, .int .i64 C.worn, .int .i64 C.cut, .int .i64 C.keep, .bool C.down]
/-- A chip of one's own: its box, the row of its blocks, the rows of their pages. O: all that is one's own; what is programmed stands beside. -/
structure ChipR (V : View) (O : Nat → Prop) (c : Nat) (x : Sl) (C : Chp) : Prop where
  box : V.see c = some (.cells ⟨chpL x C⟩ 113 (0, 0))
  row : ∃ cs, Buf V x 95 4 cs ∧ repL V cs C.bl
  pgs : ∀ q ∈ C.bl, ∃ cs, V.see q.1 = some (.cells ⟨cs⟩ 24 (0, 0)) ∧ repL (V.sans O) cs q.2.pages ∧ q.2.pages.length = C.pages
  oc : O c
  ox : ∀ a, x.a = some a → O a.block ∧ a.block ≠ c ∧ ∀ q ∈ C.bl, q.1 ≠ a.block
  op : ∀ q ∈ C.bl, O q.1 ∧ q.1 ≠ c
  nd : (C.bl.map Prod.fst).Nodup
  lim : C.pages ≤ 32
  len : C.bl.length ≤ 64
/-- The chip's own blocks. -/
def ChipO (c : Nat) (x : Sl) (C : Chp) (i : Nat) : Prop := i = c ∨ (∃ a, x.a = some a ∧ a.block = i) ∨ ∃ q ∈ C.bl, q.1 = i
theorem ChipR.own {V : View} {O : Nat → Prop} {c : Nat} {x : Sl} {C : Chp} (h : ChipR V O c x C) {i : Nat} (hi : ChipO c x C i) : O i := by
  rcases hi with rfl | ⟨a, ha, rfl⟩ | ⟨q, hq, rfl⟩
  · exact h.oc
  · exact (h.ox a ha).1
  · exact (h.op q hq).1
theorem Buf.see {V V' : View} {x : Sl} {e : TypeId} {sz : Nat} {cs : List Value} (h : Buf V x e sz cs) (hV : ∀ a o, x.a = some a → V.see a.block = some o → V'.see a.block = some o) : Buf V' x e sz cs :=
  ⟨h.len, h.le, h.lim, h.own.imp id fun ⟨r, all, a, b, c⟩ => ⟨r, all, a, hV _ _ a b, c⟩⟩
theorem repL_any {V W : View} : ∀ {cs : List Value} {l : List Pb}, repL V cs l → repL W cs l
  | _, [], h => h
  | _, _ :: _, ⟨a, b, e, h, k⟩ => ⟨a, b, e, h, repL_any k⟩
/-- What writes none of the chip's blocks leaves it as it was. -/
theorem ChipR.wr {V V' : View} {B O O' : Nat → Prop} {c : Nat} {x : Sl} {C : Chp} (h : ChipR V O c x C) (w : Wr B V V') (hB : ∀ i, B i → O i) (hn : ∀ i, B i → ¬ ChipO c x C i) (hO : ∀ i, O' i → O i ∨ V.see i = none) (hO' : ∀ i, ChipO c x C i → O' i) : ChipR V' O' c x C := by
  obtain ⟨cs, h1, h2⟩ := h.row
  refine ⟨w.rest _ _ (fun hb => hn _ hb (.inl rfl)) h.box, ⟨cs, h1.see fun a o ha ho => w.rest _ _ (fun hb => hn _ hb (.inr (.inl ⟨a, ha, rfl⟩))) ho, repL_any h2⟩, fun q hq => ?_, hO' _ (.inl rfl), fun a ha => ⟨hO' _ (.inr (.inl ⟨a, ha, rfl⟩)), (h.ox a ha).2⟩, fun q hq => ⟨hO' _ (.inr (.inr ⟨q, hq, rfl⟩)), (h.op q hq).2⟩, h.nd, h.lim, h.len⟩
  obtain ⟨ds, h3, h4, h5⟩ := h.pgs q hq
  exact ⟨ds, w.rest _ _ (fun hb => hn _ hb (.inr (.inr ⟨q, hq, rfl⟩))) h3, repL.mono (w.sans' hB hO) h4, h5⟩
theorem ChipR.le {V V' : View} {O : Nat → Prop} {c : Nat} {x : Sl} {C : Chp} (h : ChipR V O c x C) (hV : V.Le V') : ChipR V' O c x C :=
  h.wr (Wr.of (B := fun _ => False) hV) (fun _ h => h.elim) (fun _ h => h.elim) (fun _ h => .inl h) fun _ h' => h.own h'
def cfgV (g : Cfg) : Value := .agg ⟨[.int .i64 g.bl, .int .i64 g.pg, .int .i64 g.sp, .int .i64 g.da, .int .i64 g.we]⟩
theorem not_t {b : Bool} (h : (!b) = true) : b = false := by cases b <;> first | rfl | cases h
theorem not_f {b : Bool} (h : (!b) = false) : b = true := by cases b <;> first | rfl | cases h
theorem bif_dec (p q : Prop) [Decidable p] [Decidable q] : (bif decide p then decide q else false) = decide (p ∧ q) := by
  by_cases hp : p <;> simp [hp]
theorem within_ok {V : View} (n a b : Int) : CallV Tryz.prog 85 ⟨[.int .i64 n, .int .i64 a, .int .i64 b]⟩ V fun r V' => r = .bool (decide (a ≤ n ∧ n ≤ b)) ∧ V' = V := by
  refine f85_x ?_
  unfold f85_n
  exact ⟨by rw [bif_dec], rfl⟩
theorem planMay_ok {V : View} (g : Cfg) : CallV Tryz.prog 84 ⟨[cfgV g]⟩ V fun r V' => r = .bool (mayC g) ∧ V' = V := by
  refine f84_x ?_
  unfold f84_n
  intro _
  refine joinP_cut (fun z V' => z.1 = mayC g ∧ V' = V) ?_ (fun z V' h => ?_)
  · refine (within_ok _ _ _).mono ?_
    rintro r V1 ⟨rfl, rfl⟩
    refine ⟨_, rfl, br_intro (fun h1 => ?_) (fun h1 => ⟨by unfold mayC; have := of_decide_eq_false h1; exact (decide_eq_false (by omega)).symm, rfl⟩)⟩
    have h1 := of_decide_eq_true h1
    refine (within_ok _ _ _).mono ?_
    rintro r V1 ⟨rfl, rfl⟩
    refine ⟨_, rfl, br_intro (fun h2 => ?_) (fun h2 => ⟨by unfold mayC; have := of_decide_eq_false h2; exact (decide_eq_false (by omega)).symm, rfl⟩)⟩
    have h2 := of_decide_eq_true h2
    refine (within_ok _ _ _).mono ?_
    rintro r V1 ⟨rfl, rfl⟩
    refine ⟨_, rfl, br_intro (fun h3 => ?_) (fun h3 => ⟨by unfold mayC; have := of_decide_eq_false h3; exact (decide_eq_false (by omega)).symm, rfl⟩)⟩
    have h3 := of_decide_eq_true h3
    refine (within_ok _ _ _).mono ?_
    rintro r V1 ⟨rfl, rfl⟩
    refine ⟨_, rfl, br_intro (fun h4 => ?_) (fun h4 => ⟨by unfold mayC; have := of_decide_eq_false h4; exact (decide_eq_false (by omega)).symm, rfl⟩)⟩
    have h4 := of_decide_eq_true h4
    refine (within_ok _ _ _).mono ?_
    rintro r V1 ⟨rfl, rfl⟩
    refine ⟨_, rfl, ?_, rfl⟩
    show decide (2 ≤ g.we ∧ g.we ≤ 50) = mayC g
    unfold mayC
    by_cases h5 : 2 ≤ g.we ∧ g.we ≤ 50
    · rw [decide_eq_true h5, decide_eq_true (by omega)]
    · rw [decide_eq_false h5, decide_eq_false (by omega)]
  · rcases z with ⟨z, ⟨⟩⟩
    obtain ⟨h, rfl⟩ := h
    simp only at h
    dsimp only [unc]
    exact ⟨by rw [h], rfl⟩
theorem mayC_all {g : Cfg} (h : mayC g = true) : 3 ≤ g.bl ∧ g.bl ≤ 64 ∧ 2 ≤ g.pg ∧ g.pg ≤ 32 ∧ 0 ≤ g.sp ∧ g.sp ≤ 6 ∧ 1 ≤ g.da ∧ g.da ≤ 60 ∧ 2 ≤ g.we ∧ g.we ≤ 50 := of_decide_eq_true h
theorem max0 (n : Int) : (if (0 : Int) > n then 0 else n) = max n 0 := by omega
theorem planNeed_ok {V : View} (g : Cfg) : CallV Tryz.prog 87 ⟨[cfgV g]⟩ V fun r V' => r = .int .i64 (needC g) ∧ V' = V := by
  refine f87_x ?_
  unfold f87_n
  intro _
  refine (planMay_ok g).mono ?_
  rintro r V1 ⟨rfl, rfl⟩
  refine ⟨_, rfl, br_intro (fun h => ⟨?_, rfl⟩) (fun h => ?_)⟩
  · unfold needC; rw [if_neg (by rw [not_t h]; decide)]
  · have h := not_f h
    have hm := mayC_all h
    refine ⟨inI64 (by omega) (by omega), inI64 (by omega) (by omega), inI64 (by omega) (by omega), inI64 (by omega) (by omega), ?_, rfl⟩
    unfold needC; rw [if_pos h]; congr 1; omega
theorem planRoom_ok {V : View} (g : Cfg) (bad : Int) : CallV Tryz.prog 86 ⟨[cfgV g, .int .i64 bad]⟩ V fun r V' => r = .int .i64 (roomC g bad) ∧ V' = V := by
  refine f86_x ?_
  unfold f86_n
  intro _
  refine joinP_cut (fun z V' => z.1 = !decide (mayC g = true ∧ 0 ≤ bad ∧ bad ≤ g.bl) ∧ V' = V) ?_ (fun z V' h => ?_)
  · refine (planMay_ok g).mono ?_
    rintro r V1 ⟨rfl, rfl⟩
    refine ⟨_, rfl, br_intro (fun h => ⟨?_, rfl⟩) (fun h => ?_)⟩
    · rw [decide_eq_false (by rw [not_t h]; simp)]; rfl
    · refine (within_ok _ _ _).mono ?_
      rintro r V1 ⟨rfl, rfl⟩
      refine ⟨_, rfl, ?_, rfl⟩
      simp [not_f h]
  · rcases z with ⟨z, ⟨⟩⟩
    obtain ⟨h, rfl⟩ := h
    simp only at h
    dsimp only [unc]
    subst h
    refine br_intro (fun h => ⟨?_, rfl⟩) (fun h => ?_)
    · unfold roomC; rw [if_neg (of_decide_eq_false (not_t h))]
    · have h := of_decide_eq_true (not_f h)
      have hm := mayC_all h.1
      have h2 : 0 ≤ max (g.bl - bad - g.sp - 1) 0 * g.pg := Int.mul_nonneg (by omega) (by omega)
      have h3 : max (g.bl - bad - g.sp - 1) 0 * g.pg ≤ 64 * 32 := Int.mul_le_mul (by omega) (by omega) (by omega) (by omega)
      refine ⟨inI64 (by omega) (by omega), inI64 (by omega) (by omega), inI64 (by omega) (by omega), ?_, ?_, rfl⟩
      · rw [max0]; exact inI64 (by omega) (by omega)
      · rw [max0]; unfold roomC; rw [if_pos h]
theorem planFits_ok {V : View} (g : Cfg) (bad : Int) : CallV Tryz.prog 47 ⟨[cfgV g, .int .i64 bad]⟩ V fun r V' => r = .bool (fitsC g bad) ∧ V' = V := by
  refine f47_x ?_
  unfold f47_n
  intro _
  refine joinP_cut (fun z V' => z.1 = fitsC g bad ∧ V' = V) ⟨trivial, V, View.Le.refl _, ?_⟩ (fun z V' h => ?_)
  · refine (planMay_ok g).mono ?_
    rintro r V1 ⟨rfl, rfl⟩
    refine ⟨_, rfl, View.Le.refl _, V1, View.Le.refl _, View.Le.refl _, br_intro (fun h1 => ?_) (fun h1 => ⟨V1, View.Le.refl _, View.Le.refl _, ?_, rfl⟩)⟩
    · refine (within_ok _ _ _).mono ?_
      rintro r V1 ⟨rfl, rfl⟩
      refine ⟨_, rfl, View.Le.refl _, V1, View.Le.refl _, View.Le.refl _, br_intro (fun h2 => ?_) (fun h2 => ⟨?_, rfl⟩)⟩
      · refine (planRoom_ok g bad).mono ?_
        rintro r V1 ⟨rfl, rfl⟩
        refine ⟨_, rfl, View.Le.refl _, (planNeed_ok g).mono ?_⟩
        rintro r V1 ⟨rfl, rfl⟩
        refine ⟨_, rfl, ?_, rfl⟩
        unfold fitsC; rw [h1, h2]; rfl
      · unfold fitsC; rw [h1, h2]; rfl
    · unfold fitsC; rw [h1]; rfl
  · rcases z with ⟨z, ⟨⟩⟩
    obtain ⟨h, rfl⟩ := h
    simp only at h
    dsimp only [unc]
    exact ⟨by rw [h], rfl⟩
theorem planFloor_ok {V : View} (g : Cfg) (bad : Int) (hb : bad ≤ 1000) : CallV Tryz.prog 108 ⟨[cfgV g, .int .i64 bad]⟩ V fun r V' => r = .int .i64 (floorC g bad) ∧ V' = V := by
  refine f108_x ?_
  unfold f108_n
  intro _
  refine (planMay_ok g).mono ?_
  rintro r V1 ⟨rfl, rfl⟩
  refine ⟨_, rfl, br_intro (fun h => ⟨?_, rfl⟩) (fun h => ?_)⟩
  · unfold floorC
    rw [if_neg]
    rintro ⟨a, b⟩
    rw [a] at h
    have := of_decide_eq_true (show decide (bad < 0) = true from h)
    omega
  · cases hm : mayC g with
    | false => rw [hm] at h; cases h
    | true =>
      rw [hm] at h
      have h := of_decide_eq_false (show decide (bad < 0) = false from h)
      have := mayC_all hm
      refine ⟨inI64 (by omega) (by omega), inI64 (by omega) (by omega), ?_, rfl⟩
      unfold floorC; rw [max0, if_pos ⟨hm, by omega⟩]
/-- O, and the row x. -/
def ownS (O : Nat → Prop) (x : Sl) (i : Nat) : Prop := O i ∨ ∃ a, x.a = some a ∧ a.block = i
theorem minus_see' {V : View} {x : Sl} {i : Nat} (h : ∀ a, x.a = some a → a.block ≠ i) : (V.minus x).see i = V.see i := by
  unfold View.minus
  split
  · rfl
  · rename_i a ha; rw [hide_see, if_neg fun e => h a ha e.symm]
theorem minus_ne' {V : View} {x : Sl} {i : Nat} {o : Obj} (h : (V.minus x).see i = some o) (a : Addr) (ha : x.a = some a) : a.block ≠ i := by
  rintro rfl
  unfold View.minus at h
  rw [ha] at h
  simp [hide_see] at h
theorem minus_size (V : View) (x : Sl) : (V.minus x).size = V.size := by unfold View.minus; split <;> rfl
theorem minus_out (V : View) (x : Sl) : (V.minus x).out = V.out := by unfold View.minus; split <;> rfl
theorem sansS_le {O : Nat → Prop} {V V' : View} {x s : Sl} (h : (V.minus x).Le (V'.minus s)) : (V.sans (ownS O x)).Le (V'.sans (ownS O s)) :=
  ⟨by have := h.size; rw [minus_size, minus_size] at this; exact this, fun i o hi => by
    by_cases e : ownS O x i
    · rw [sans_yes e] at hi; cases hi
    · rw [sans_no e] at hi
      have h1 : (V.minus x).see i = some o := by rw [minus_see' fun a ha hb => e (.inr ⟨a, ha, hb⟩)]; exact hi
      have h2 := h.see _ _ h1
      have h3 := minus_ne' h2
      rw [minus_see' h3] at h2
      rw [sans_no]
      · exact h2
      · rintro (k | ⟨a, ha, hb⟩)
        · exact e (.inl k)
        · exact h3 a ha hb, by have := h.out; rw [minus_out, minus_out] at this; exact this⟩
theorem ownS_seen {O : Nat → Prop} {V : View} {x : Sl} {e : TypeId} {sz : Nat} {cs : List Value} (hO : ∀ i, O i → V.see i ≠ none) (hb : Buf V x e sz cs) : ∀ i, ownS O x i → V.see i ≠ none := by
  rintro i (h | ⟨a, ha, rfl⟩)
  · exact hO i h
  · rcases hb.own with ⟨h1, _⟩ | ⟨r, all, h1, h2, _⟩
    · rw [h1] at ha; cases ha
    · rw [h1] at ha; cases ha; rw [h2]; simp
/-- What is one's own stays beside a row that grows. -/
theorem ownS_ne {O : Nat → Prop} {V V' : View} {x s : Sl} (hO : ∀ i, O i → V.see i ≠ none) (hx : ∀ a, x.a = some a → ¬ O a.block) (h : (V.minus x).Le (V'.minus s)) : ∀ a, s.a = some a → ¬ O a.block := by
  intro a ha hb
  cases hs : V.see a.block with
  | none => exact hO _ hb hs
  | some o =>
    have h1 : (V.minus x).see a.block = some o := by rw [minus_see' fun b hb' e => hx b hb' (e ▸ hb)]; exact hs
    exact minus_ne' (h.see _ _ h1) a ha rfl
theorem appS {α : Type} [Rep α] {O : Nat → Prop} {V : View} {r : Nat} {x : Sl} {e : TypeId} {bytes : Nat} {zero : List Value} {cs vs : List Value} {l : List α} {d : α} {C : Sl → View → Prop} {ob : Obj} {te : TypeId}
    (hz : zero.length = Rep.sz α) (hb : Buf V x e (Rep.sz α) cs) (hr : repL (V.sans (ownS O x)) cs l) (hd : Rep.rep (V.sans (ownS O x)) vs d) (hnew : V.size ≤ r) (hob : ob = .cells ⟨vs⟩ te (0, 0))
    (hm : (l.length + 1) * bytes ≤ 140737488355328) (hm2 : l.length + 1 ≤ 140737488355328)
    (hC : ∀ s V', Buf V' s e (Rep.sz α) (cs ++ vs) → repL (V'.sans (ownS O s)) (cs ++ vs) (l ++ [d]) → (V.minus x).Le (V'.minus s) → C s V') :
    apV (V.put r ob) e (Rep.sz α) bytes zero x (.slice (some ⟨r, 0, none⟩) 1 1) C := by
  subst hob
  have hfr : V.see r = none := View.see_none_of_ge hnew
  have hvl : vs.length = Rep.sz α := Rep.len hd
  have hn : x.n = l.length := Nat.eq_of_mul_eq_mul_right (Rep.pos (α := α)) (hb.len.symm.trans hr.len)
  refine apV_buf hz (hb.put hfr) (src := vs) (m := 1) ⟨rfl, rowAt_new (View.see_put_same _ _ _) (by rw [Nat.one_mul]; exact hvl)⟩ (by rw [Nat.one_mul]; exact hvl) (Rep.one hd) (by rw [hn]; exact hm) (by rw [hn]; exact hm2) fun s V' hb' _ hle' => ?_
  have h1 : (V.minus x).Le (V'.minus s) := (put_minus_le hfr).trans hle'
  exact hC s V' hb' ((hr.mono (sansS_le h1)).snoc (Rep.mono (sansS_le h1) hd)) h1
/-- A row of one's own, and what stands in it, beside O. -/
theorem Buf.slS {α : Type} [Rep α] {O : Nat → Prop} {V : View} {x : Sl} {e : TypeId} {cs : List Value} {l : List α} (hb : Buf V x e (Rep.sz α) cs) (hr : repL (V.sans (ownS O x)) cs l) (hx : ∀ a, x.a = some a → ¬ O a.block) : SlR (V.sans O) x l := by
  have hb' : Buf (V.sans O) x e (Rep.sz α) cs := hb.see fun a o ha ho => by rw [sans_no (hx a ha)]; exact ho
  exact hb'.slR hr (sans_mono fun i h => .inl h)
theorem ChipR.blkAt {V : View} {O : Nat → Prop} {c : Nat} {x : Sl} {C : Chp} (h : ChipR V O c x C) {i : Nat} (hi : i < C.bl.length) :
    ∃ ad, x.a = some ad ∧ cellsAt V (ad.add (i * 4)) [.bool C.bl[i].2.bad, .int .i64 C.bl[i].2.nxt, .int .i64 C.bl[i].2.cnt, .slice (some ⟨C.bl[i].1, 0, none⟩) C.bl[i].2.pages.length C.bl[i].2.pages.length] ∧ inI .i64 C.bl[i].2.nxt ∧ inI .i64 C.bl[i].2.cnt := by
  obtain ⟨cs, hb, hr⟩ := h.row
  have hs : SlR V x C.bl := hb.slR hr (View.Le.refl _)
  obtain ⟨ad, vs, ha, hc, rfl, h1, h2⟩ := hs.get i hi
  exact ⟨ad, ha, hc, h1, h2⟩
theorem ChipR.xn {V : View} {O : Nat → Prop} {c : Nat} {x : Sl} {C : Chp} (h : ChipR V O c x C) : x.n = C.bl.length := by
  obtain ⟨cs, hb, hr⟩ := h.row
  exact hb.n_eq hr
theorem ChipR.cell {V : View} {O : Nat → Prop} {c : Nat} {x : Sl} {C : Chp} (h : ChipR V O c x C) (j : Nat) {v : Value} (hj : (chpL x C)[j]? = some v) : V.cell? ((⟨c, 0, none⟩ : Addr).add j) = some v := bx h.box j hj
theorem has_ok {V : View} {O : Nat → Prop} {c : Nat} {x : Sl} {C : Chp} (h : ChipR V O c x C) (i : Int) : CallV Tryz.prog 112 ⟨[.pointer (some ⟨c, 0, none⟩), .int .i64 i]⟩ V fun r V' => r = .bool (decide (0 ≤ i ∧ i < C.bl.length)) ∧ V' = V := by
  refine f112_x ?_
  unfold f112_n
  have hn := h.xn
  refine joinP_cut (fun z V' => z.1 = decide (0 ≤ i ∧ i < C.bl.length) ∧ V' = V) (br_intro (fun h0 => ⟨_, rfl, x, h.cell 0 rfl, ?_, rfl⟩) (fun h0 => ⟨?_, rfl⟩)) (fun z V' hz => ?_)
  · have h0 := of_decide_eq_true (show decide (0 ≤ i) = true from h0)
    show decide (i < (x.n : Int)) = _
    rw [hn]
    by_cases h1 : i < (C.bl.length : Int)
    · rw [decide_eq_true h1, decide_eq_true ⟨h0, h1⟩]
    · rw [decide_eq_false h1, decide_eq_false fun e => h1 e.2]
  · have h0 := of_decide_eq_false (show decide (0 ≤ i) = false from h0)
    exact (decide_eq_false fun e => h0 e.1).symm
  · rcases z with ⟨z, ⟨⟩⟩
    obtain ⟨hz, rfl⟩ := hz
    try simp only at hz
    dsimp only [unc]
    exact ⟨by rw [hz], rfl⟩
theorem spot_ok {V : View} {O : Nat → Prop} {c : Nat} {x : Sl} {C : Chp} (h : ChipR V O c x C) (i j : Int) : CallV Tryz.prog 77 ⟨[.pointer (some ⟨c, 0, none⟩), .agg ⟨[.int .i64 i, .int .i64 j]⟩]⟩ V fun r V' => r = .bool (decide (0 ≤ i ∧ i < C.bl.length ∧ 0 ≤ j ∧ j < C.pages)) ∧ V' = V := by
  refine f77_x ?_
  unfold f77_n
  intro _
  refine joinP_cut (fun z V' => z.1 = decide (0 ≤ i ∧ i < C.bl.length ∧ 0 ≤ j ∧ j < C.pages) ∧ V' = V) ⟨trivial, V, View.Le.refl _, (has_ok h i).mono ?_⟩ (fun z V' hz => ?_)
  · rintro r V1 ⟨rfl, rfl⟩
    refine ⟨_, rfl, View.Le.refl _, V1, View.Le.refl _, View.Le.refl _, br_intro (fun h0 => ⟨_, rfl, _, h.cell 1 rfl, ?_, rfl⟩) (fun h0 => ⟨?_, rfl⟩)⟩
    · rw [bif_dec] at h0
      have h0 := of_decide_eq_true h0
      show decide (j < (C.pages : Int)) = _
      by_cases h1 : j < (C.pages : Int)
      · rw [decide_eq_true h1, decide_eq_true ⟨h0.1.1, h0.1.2, h0.2, h1⟩]
      · rw [decide_eq_false h1, decide_eq_false fun e => h1 e.2.2.2]
    · rw [bif_dec] at h0
      have h0 := of_decide_eq_false h0
      exact (decide_eq_false fun e => h0 ⟨⟨e.1, e.2.1⟩, e.2.2.1⟩).symm
  · rcases z with ⟨z, ⟨⟩⟩
    obtain ⟨hz, rfl⟩ := hz
    try simp only at hz
    dsimp only [unc]
    exact ⟨by rw [hz], rfl⟩
theorem down_ok {V : View} {O : Nat → Prop} {c : Nat} {x : Sl} {C : Chp} (h : ChipR V O c x C) : CallV Tryz.prog 33 ⟨[.pointer (some ⟨c, 0, none⟩)]⟩ V fun r V' => r = .bool C.down ∧ V' = V := by
  refine f33_x ?_
  unfold f33_n
  refine joinP_cut (fun z V' => z.1 = C.down ∧ V' = V) (br_intro (fun _ => ⟨_, rfl, _, h.cell 9 rfl, rfl, rfl⟩) (fun h0 => by cases h0)) (fun z V' hz => ?_)
  rcases z with ⟨z, ⟨⟩⟩
  obtain ⟨hz, rfl⟩ := hz
  try simp only at hz
  dsimp only [unc]
  exact ⟨by rw [hz], rfl⟩
theorem comes_ok {V : View} {p : Nat} {cs : List Value} {e : TypeId} (h : V.see p = some (.cells ⟨cs⟩ e (0, 0))) {j : Nat} {n : Int} (hj : cs[j]? = some (.int .i64 n)) (hn : inI .i64 (n - 1)) :
    CallV Tryz.prog 142 ⟨[.pointer (some ((⟨p, 0, none⟩ : Addr).add j))]⟩ V fun r V' => r = .bool (decide (n = 0)) ∧ V' = V.put p (.cells ⟨putL cs j [.int .i64 (max (n - 1) (-1))]⟩ e (0, 0)) := by
  refine f142_x ?_
  unfold f142_n
  have hl : j < cs.length := (List.getElem?_eq_some_iff.1 hj).1
  refine ⟨_, rfl, _, bx h j hj, _, rfl, _, bx h j hj, hn, _, rfl, bxc h j 1 (by omega), rfl, ?_⟩
  rw [bxe h, show (if (-1 : Int) > n - 1 then (-1 : Int) else n - 1) = max (n - 1) (-1) by omega]
theorem stands_ok {V : View} {s : Sl} {l : List UInt8} (h : SlR V s l) (k : Nat) (hk : l.length ≤ 2000) : CallV Tryz.prog 143 ⟨[.slice s.a s.n s.c, .int .i64 k]⟩ V fun r V' => ∃ y : Sl, r = .slice y.a y.n y.c ∧ Fresh8 V V' y (l.take k) := by
  refine f143_x ?_
  unfold f143_n
  have hn := h.n
  have hc := h.c
  obtain ⟨m, hm⟩ : ∃ m : Nat, (if (s.n : Int) < (k : Int) then (s.n : Int) else (k : Int)) = m := ⟨min s.n k, by omega⟩
  rw [hm]
  have hmn : m ≤ s.n := by omega
  have hsub := h.sub (Nat.zero_le m) (by omega)
  simp only [List.drop_zero, Nat.zero_mul, Nat.sub_zero, Int.toNat_natCast] at hsub ⊢
  have htk : l.take m = l.take k := by
    by_cases e : s.n < k
    · rw [List.take_of_length_le (by omega), List.take_of_length_le (by omega)]
    · rw [show m = k by omega]
  rw [htk] at hsub
  refine ⟨by omega, by omega, by omega, ?_⟩
  have hlen : (l.take k).length = m := by rw [← htk, List.length_take]; omega
  refine apV_buf (cs := []) (src := u8s (l.take k)) (m := m) rfl (Buf.nil _ _ _) ⟨rfl, ?_⟩ (by rw [u8s_len]; omega) (u8s_one _) (by simp; omega) (by simp; omega) fun y V' hb _ hle => ⟨y, rfl, hb, hle⟩
  have := hsub.row8
  exact this
theorem cloneP_ok {V : View} {p n : Nat} {cs : List Value} (h : V.see p = some (.cells ⟨cs⟩ 24 (0, 0))) (hn : cs.length = n) (h1 : cs.all Value.oneCell' = true) (hl : n ≤ 1000000) :
    CallV Tryz.prog 113 ⟨[.slice (some ⟨p, 0, none⟩) n n]⟩ V fun r V' => ∃ y : Sl, r = .slice y.a y.n y.c ∧ Buf V' y 24 1 cs ∧ V.Le (V'.minus y) := by
  refine f113_x (a0 := ⟨some ⟨p, 0, none⟩, n, n⟩) ?_
  unfold f113_n
  refine br_intro (fun h0 => by cases h0) (fun _ r hr => ?_)
  have hfr : V.see r = none := View.see_none_of_ge hr
  refine apV_buf (cs := []) (src := cs) (m := n) rfl ⟨rfl, Nat.le_refl _, Nat.zero_le _, .inr ⟨r, [], rfl, View.see_put_same _ _ _, rfl, rfl⟩⟩ ⟨rfl, ?_⟩ (by omega) h1 (by simp; omega) (by simp; omega) ?_
  · have := rowAt_new (k := n * 1) ((View.put_le (o := .cells ⟨[]⟩ 24) hfr).see _ _ h) (by omega)
    exact this
  · intro x V' hb _ hle
    refine ⟨x, rfl, hb, View.Le.trans ?_ hle⟩
    exact put_le_hide hfr (View.Le.refl _)
/-- Block i as data. -/
def blkV (b : Blk) (y : Sl) : Value := .agg ⟨[.bool b.bad, .int .i64 b.nxt, .int .i64 b.cnt, .slice y.a y.n y.c]⟩
theorem block_ok {V : View} {O : Nat → Prop} {c : Nat} {x : Sl} {C : Chp} (h : ChipR V O c x C) (hO : ∀ i, O i → V.see i ≠ none) {i : Nat} (hi : i < C.bl.length) (hsz : ∀ q ∈ C.bl, ∀ b ∈ q.2.pages, b.length ≤ 2000) :
    CallV Tryz.prog 69 ⟨[.pointer (some ⟨c, 0, none⟩), .int .i64 i]⟩ V fun r V' => ∃ y : Sl, r = blkV C.bl[i].2 y ∧ V.Le V' ∧ SlR (V'.sans O) y C.bl[i].2.pages := by
  refine f69_x ?_
  unfold f69_n
  intro _
  refine (has_ok h i).mono ?_
  rintro r V1 ⟨rfl, rfl⟩
  rw [decide_eq_true (show (0 : Int) ≤ (i : Int) ∧ (i : Int) < C.bl.length by omega)]
  refine ⟨_, rfl, br_intro (fun h0 => by cases h0) (fun _ => ?_)⟩
  have hxn := h.xn
  have hlim := h.lim
  obtain ⟨ad, ha, hc, hi1, hi2⟩ := h.blkAt hi
  obtain ⟨cs, hp1, hp2, hp3⟩ := h.pgs _ (List.getElem_mem hi)
  have hsz' := hsz _ (List.getElem_mem hi)
  generalize C.bl[i] = q at *
  have hcl := hp2.len
  rw [show Rep.sz (List UInt8) = 1 from rfl, Nat.mul_one] at hcl
  refine ⟨_, rfl, x, h.cell 0 rfl, by omega, by omega, ad, ha, _, _, _, ⟨some ⟨q.1, 0, none⟩, q.2.pages.length, q.2.pages.length⟩, hc, fun _ => ?_⟩
  refine (cloneP_ok hp1 hcl hp2.one (by omega)).mono ?_
  rintro r V2 ⟨y, rfl, hy, hle⟩
  have hyn : y.n = q.2.pages.length := by have := hy.len; omega
  have hyO : ∀ a, y.a = some a → ¬ O a.block := by
    intro a ha' hb
    cases hs : V1.see a.block with
    | none => exact hO _ hb hs
    | some o => exact minus_ne' (hle.see _ _ hs) a ha' rfl
  refine ⟨y, rfl, ?_⟩
  refine loop1 (k := .int .i64) (fun (jj : Int) V' => ∃ (j : Nat) (cs : List Value), jj = j ∧ j ≤ q.2.pages.length ∧ Buf V' y 24 1 cs ∧ repL (V'.sans (ownS O y)) cs q.2.pages ∧ V1.Le (V'.minus y)) (fun (jj : Int) _ => q.2.pages.length - jj.toNat)
    ⟨0, cs, rfl, Nat.zero_le _, hy, hp2.mono ?_, hle⟩ ?_
  · refine ⟨Nat.le_trans hle.size (by rw [minus_size]; exact Nat.le_refl _), fun k o hk => ?_, by have := hle.out; rw [minus_out] at this; exact this⟩
    by_cases e : O k
    · rw [sans_yes e] at hk; cases hk
    · rw [sans_no e] at hk
      have h2 := hle.see _ _ hk
      have h3 := minus_ne' h2
      rw [minus_see' h3] at h2
      rw [sans_no]
      · exact h2
      · rintro (k | ⟨a, ha, hb⟩)
        · exact e k
        · exact h3 a ha hb
  rintro (jj : Int) V3 ⟨j, cs3, rfl, hj, hb3, hr3, hle3⟩
  refine br_intro (fun hlt => ?_) (fun hge => ?_)
  · have hlt : j < q.2.pages.length := by have := of_decide_eq_true hlt; omega
    have hs3 : SlR V3 y q.2.pages := hb3.slR hr3 (sans_le _ _)
    obtain ⟨vs, ⟨s, rfl, hs⟩, hg⟩ := hr3.get j hlt
    have hcell : ∀ ad, y.a = some ad → V3.cell? (ad.add (j * 1)) = some (.slice s.a s.n s.c) := by
      intro ad' ha'
      rcases hb3.own with ⟨h1, _⟩ | ⟨r, all, h1, h2, h3, h4⟩
      · rw [h1] at ha'; cases ha'
      · rw [h1] at ha'; cases ha'
        rw [addr0_add]
        refine cell_of_see h2 ?_
        have := hg 0 _ rfl
        rw [← h4, List.getElem?_take] at this
        split at this
        · rw [show Rep.sz (List UInt8) = 1 from rfl] at this; simpa using this
        · cases this
    obtain ⟨ad2, ha2⟩ : ∃ ad2, y.a = some ad2 := by
      rcases hb3.own with ⟨h1, h2⟩ | ⟨r, all, h1, _⟩
      · have := hb3.le; omega
      · exact ⟨_, h1⟩
    have hO3 : ∀ i, ownS O y i → V3.see i ≠ none := ownS_seen (fun i hi => by
      cases hs : V1.see i with
      | none => exact absurd hs (hO i hi)
      | some o => rw [((hle3.trans (View.minus_le _ _)).see _ _ hs)]; simp) hb3
    refine ⟨by omega, by omega, ad2, ha2, s, hcell ad2 ha2, trivial, V3, View.Le.refl _, ?_⟩
    refine (CallV.apart hO3 ((clone8_ok hs (by have := hsz' _ (List.getElem_mem hlt); omega)).mono fun r U' ⟨z, h1, h2⟩ => ⟨(⟨z, h1, h2⟩ : ∃ z : Sl, r = .slice z.a z.n z.c ∧ Fresh8 (V3.sans (ownS O y)) U' z q.2.pages[j]), h2.vle⟩)).mono ?_
    rintro r V4 ⟨U, ⟨z, rfl, hz⟩, hU1, hU2, hV4⟩
    have hb4 := hb3.mono hV4
    obtain ⟨g1, g2, g3⟩ := hb4.set (off := j * 1) (vs := [.slice z.a z.n z.c]) (by simp; omega) (by simp) ha2
    refine ⟨z, rfl, hV4, by omega, by omega, ad2, ha2, g1, inI64 (by omega) (by omega), ⟨j + 1, _, by omega, by omega, g2, ?_, ((hle3.trans (minus_mono hV4 y)).trans g3)⟩, by omega⟩
    have hr4 : repL (V4.sans (ownS O y)) cs3 q.2.pages := hr3.mono (hU1.trans hU2)
    have hd : Rep.rep ((V4.sets (ad2.add (j * 1)) [.slice z.a z.n z.c]).sans (ownS O y)) [.slice z.a z.n z.c] q.2.pages[j] := ⟨z, rfl, ((hz.slR.mono hU2).mono (sansS_le (O := O) g3))⟩
    have := repL.set hd (hr4.mono (sansS_le (O := O) g3)) hlt
    rw [List.set_getElem_self] at this
    exact this
  · exact ⟨y, rfl, hle3.trans (View.minus_le _ _), hb3.slS hr3 hyO⟩
theorem SlR.sansMono {α : Type} [Rep α] {O : Nat → Prop} {V V' : View} {s : Sl} {l : List α} (h : SlR (V.sans O) s l) (hV : V.Le V') : SlR (V'.sans O) s l := h.mono (sans_mono_le hV)
theorem blocks_ok {V : View} {O : Nat → Prop} {c : Nat} {x : Sl} {C : Chp} (h : ChipR V O c x C) (hO : ∀ i, O i → V.see i ≠ none) (hsz : ∀ q ∈ C.bl, ∀ b ∈ q.2.pages, b.length ≤ 2000) :
    CallV Tryz.prog 28 ⟨[.pointer (some ⟨c, 0, none⟩)]⟩ V fun r V' => ∃ y : Sl, r = .slice y.a y.n y.c ∧ V.Le V' ∧ SlR (V'.sans O) y (C.bl.map Prod.snd) := by
  refine f28_x ?_
  unfold f28_n
  have hxn := h.xn
  have hlen := h.len
  refine br_intro (fun h0 => by cases h0) (fun _ => ⟨_, rfl, x, h.cell 0 rfl, ?_⟩)
  refine loop2 (k := .sl) (l := .int .i64) (fun (o : Sl) (jj : Int) V' => ∃ (j : Nat) (cs : List Value), jj = j ∧ j ≤ C.bl.length ∧ Buf V' o 95 4 cs ∧ repL (V'.sans (ownS O o)) cs ((C.bl.map Prod.snd).take j) ∧ V.Le (V'.minus o) ∧ ∀ a, o.a = some a → ¬ O a.block) (fun _ (jj : Int) _ => C.bl.length - jj.toNat)
    ⟨0, [], rfl, Nat.zero_le _, Buf.nil _ _ _, rfl, View.Le.refl _, fun a ha => by cases ha⟩ ?_
  rintro (o : Sl) (jj : Int) V1 ⟨j, cs, rfl, hj, hb, hr, hle, hoO⟩
  have hV1 : V.Le V1 := hle.trans (View.minus_le _ _)
  have hO1 : ∀ i, O i → V1.see i ≠ none := fun i hi => by
    cases hs : V.see i with
    | none => exact absurd hs (hO i hi)
    | some o => rw [hV1.see _ _ hs]; simp
  refine br_intro (fun hlt => ?_) (fun hge => ?_)
  · have hlt : j < C.bl.length := by have := of_decide_eq_true hlt; omega
    have hh : ChipR V1 (ownS O o) c x C := h.wr (B := fun _ => False) (O' := ownS O o) (Wr.of hV1) (fun _ h => h.elim) (fun _ h => h.elim) (fun i hi => by
      rcases hi with hi | ⟨a, ha, rfl⟩
      · exact .inl hi
      · refine .inr ?_
        cases hs : V.see a.block with
        | none => rfl
        | some ob => exact absurd rfl (minus_ne' (hle.see _ _ hs) a ha)) (fun i hi => .inl (h.own hi))
    refine (block_ok hh (ownS_seen hO1 hb) hlt hsz).mono ?_
    rintro r V2 ⟨y, rfl, hV2, hy⟩
    refine ⟨_, _, _, y, rfl, fun r2 hr2 => ?_⟩
    have hb2 := hb.mono hV2
    obtain ⟨_, _, _, hi1, hi2⟩ := hh.blkAt hlt
    have hlt' : j < (C.bl.map Prod.snd).length := by rw [List.length_map]; exact hlt
    refine appS (α := Blk) (O := O) (d := (C.bl.map Prod.snd)[j]) rfl hb2 (hr.mono (sansS_le (minus_mono hV2 o))) (vs := [.bool C.bl[j].2.bad, .int .i64 C.bl[j].2.nxt, .int .i64 C.bl[j].2.cnt, .slice y.a y.n y.c]) ?_ hr2 rfl (by rw [List.length_take, List.length_map]; omega) (by rw [List.length_take, List.length_map]; omega) fun s V3 hs hr3 hle3 => ?_
    · rw [List.getElem_map]
      exact ⟨y, rfl, hi1, hi2, hy⟩
    · refine ⟨inI64 (by omega) (by omega), ⟨j + 1, _, by omega, by omega, hs, ?_, (hle.trans (minus_mono hV2 o)).trans hle3, ownS_ne (V := V2) (fun i hi => ?_) hoO hle3⟩, by omega⟩
      · rw [List.take_add_one, List.getElem?_eq_getElem hlt']; exact hr3
      · cases hs : V1.see i with
        | none => exact absurd hs (hO1 i hi)
        | some o => rw [hV2.see _ _ hs]; simp
  · have hge : j = C.bl.length := by have := of_decide_eq_false hge; omega
    subst hge
    rw [List.take_of_length_le (by rw [List.length_map]; exact Nat.le_refl _)] at hr
    exact ⟨o, rfl, hV1, hb.slS hr hoO⟩
theorem ChipR.setBox {V : View} {O : Nat → Prop} {c : Nat} {x : Sl} {C C' : Chp} (h : ChipR V O c x C) (hb : C'.bl = C.bl) (hp : C'.pages = C.pages) :
    ChipR (V.put c (.cells ⟨chpL x C'⟩ 113 (0, 0))) O c x C' ∧ Wr (· = c) V (V.put c (.cells ⟨chpL x C'⟩ 113 (0, 0))) := by
  have w : Wr (· = c) V (V.put c (.cells ⟨chpL x C'⟩ 113 (0, 0))) := Wr.put (.inl rfl)
  obtain ⟨cs, h1, h2⟩ := h.row
  refine ⟨⟨View.see_put_same _ _ _, ⟨cs, h1.see fun a o ha ho => by rw [View.see_put_ne _ _ (h.ox a ha).2.1]; exact ho, by rw [hb]; exact repL_any h2⟩, fun q hq => ?_, h.oc, by rw [hb]; exact h.ox, by rw [hb]; exact h.op, by rw [hb]; exact h.nd, by rw [hp]; exact h.lim, by rw [hb]; exact h.len⟩, w⟩
  rw [hb] at hq
  obtain ⟨ds, h3, h4, h5⟩ := h.pgs q hq
  exact ⟨ds, by rw [View.see_put_ne _ _ (h.op q hq).2]; exact h3, h4.mono (w.sans fun i hi => by rw [hi]; exact h.oc), by rw [hp]; exact h5⟩
theorem sans_of_minus {V V' : View} {O : Nat → Prop} {x : Sl} (h : (V.minus x).Le (V'.minus x)) (hx : ∀ a, x.a = some a → O a.block) : (V.sans O).Le (V'.sans O) :=
  ⟨by have := h.size; rw [minus_size, minus_size] at this; exact this, fun i o hi => by
    by_cases e : O i
    · rw [sans_yes e] at hi; cases hi
    · rw [sans_no e] at hi ⊢
      have h1 : (V.minus x).see i = some o := by rw [minus_see' (fun a ha hb => e (by rw [← hb]; exact hx a ha))]; exact hi
      have h2 := h.see _ _ h1
      rw [minus_see' (minus_ne' h2)] at h2; exact h2, by have := h.out; rw [minus_out, minus_out] at this; exact this⟩
theorem see_of_minus {V V' : View} {x : Sl} (h : (V.minus x).Le (V'.minus x)) {i : Nat} {o : Obj} (hi : ∀ a, x.a = some a → a.block ≠ i) (hs : V.see i = some o) : V'.see i = some o := by
  have h2 := h.see i o (by rw [minus_see' hi]; exact hs)
  rw [minus_see' hi] at h2; exact h2
def nxtC (C : Chp) (i : Nat) (hi : i < C.bl.length) (n : Int) : Chp := { C with bl := C.bl.set i (C.bl[i].1, { C.bl[i].2 with nxt := n }) }
def pageC (C : Chp) (i : Nat) (hi : i < C.bl.length) (j : Nat) (b : List UInt8) : Chp := { C with bl := C.bl.set i (C.bl[i].1, { C.bl[i].2 with pages := C.bl[i].2.pages.set j b }) }
/-- Which page is next, set. -/
theorem ChipR.setNxt {V : View} {O : Nat → Prop} {c : Nat} {x : Sl} {C : Chp} (h : ChipR V O c x C) {i : Nat} (hi : i < C.bl.length) {n : Int} (hn : inI .i64 n) :
    ∃ ad, x.a = some ad ∧ canSet V ((ad.add (i * 4)).add 1) 1 ∧ ChipR (V.sets ((ad.add (i * 4)).add 1) [.int .i64 n]) O c x (nxtC C i hi n) ∧ Wr (fun k => ∃ a, x.a = some a ∧ a.block = k) V (V.sets ((ad.add (i * 4)).add 1) [.int .i64 n]) := by
  obtain ⟨cs, h1, h2⟩ := h.row
  obtain ⟨ad, vs, ha, hc, hrep, hset⟩ := Buf.setC (α := Pb) h1 (repL_any h2 : repL (V.minus x) cs C.bl) hi
  obtain ⟨e, hi1, hi2⟩ := hrep
  obtain ⟨g1, g2, g3, g4⟩ := hset 1 (.int .i64 n) (C.bl[i].1, { C.bl[i].2 with nxt := n }) (by decide) ⟨by rw [e]; rfl, hn, hi2⟩
  have hox := h.ox ad ha
  have ho : ∀ a, x.a = some a → O a.block := fun a ha => (h.ox a ha).1
  have hmem : ∀ q ∈ C.bl.set i (C.bl[i].1, { C.bl[i].2 with nxt := n }), ∃ q' ∈ C.bl, q.1 = q'.1 ∧ q.2.pages = q'.2.pages := by
    intro q hq
    rcases List.mem_or_eq_of_mem_set hq with hq | rfl
    · exact ⟨q, hq, rfl, rfl⟩
    · exact ⟨_, List.getElem_mem hi, rfl, rfl⟩
  refine ⟨ad, ha, g1, ⟨see_of_minus g4 (fun a ha => (h.ox a ha).2.1) h.box, ⟨_, g2, repL_any g3⟩, fun q hq => ?_, h.oc, fun a ha => ⟨(h.ox a ha).1, (h.ox a ha).2.1, fun q hq => ?_⟩, fun q hq => ?_, ?_, h.lim, by show (C.bl.set i _).length ≤ 64; rw [List.length_set]; exact h.len⟩, ⟨by have := g4.size; rw [minus_size, minus_size] at this; exact this, fun k o hk hs => see_of_minus g4 (fun a ha e => hk ⟨a, ha, e⟩) hs, by have := g4.out; rw [minus_out, minus_out] at this; exact this⟩⟩
  · obtain ⟨q', hq', e1, e2⟩ := hmem q hq
    obtain ⟨ds, h3, h4, h5⟩ := h.pgs q' hq'
    rw [e1, e2]
    exact ⟨ds, see_of_minus g4 (fun a ha => ((h.ox a ha).2.2 q' hq').symm) h3, h4.mono (sans_of_minus g4 ho), h5⟩
  · obtain ⟨q', hq', e1, _⟩ := hmem q hq
    rw [e1]; exact (h.ox a ha).2.2 q' hq'
  · obtain ⟨q', hq', e1, _⟩ := hmem q hq
    rw [e1]; exact h.op q' hq'
  · show ((C.bl.set i _).map Prod.fst).Nodup
    rw [List.map_set]
    show ((C.bl.map Prod.fst).set i C.bl[i].1).Nodup
    rw [show C.bl[i].1 = (C.bl.map Prod.fst)[i]'(by rw [List.length_map]; exact hi) by rw [List.getElem_map], List.set_getElem_self]
    exact h.nd
/-- A page, set. -/
theorem ChipR.setPage {V : View} {O : Nat → Prop} {c : Nat} {x y : Sl} {C : Chp} (h : ChipR V O c x C) {i j : Nat} (hi : i < C.bl.length) (hj : j < C.pages) {b : List UInt8} (hy : SlR (V.sans O) y b) :
    canSet V ((⟨C.bl[i].1, 0, none⟩ : Addr).add (j * 1)) 1 ∧ ChipR (V.sets ((⟨C.bl[i].1, 0, none⟩ : Addr).add (j * 1)) [.slice y.a y.n y.c]) O c x (pageC C i hi j b) ∧ Wr (· = C.bl[i].1) V (V.sets ((⟨C.bl[i].1, 0, none⟩ : Addr).add (j * 1)) [.slice y.a y.n y.c]) := by
  obtain ⟨cs, h1, h2⟩ := h.row
  have hmi := List.getElem_mem hi
  obtain ⟨ds, h3, h4, h5⟩ := h.pgs _ hmi
  have hdl := h4.len
  rw [show Rep.sz (List UInt8) = 1 from rfl, Nat.mul_one] at hdl
  rw [Nat.mul_one, bxe h3]
  have w : Wr (· = C.bl[i].1) V (V.put C.bl[i].1 (.cells ⟨putL ds j [.slice y.a y.n y.c]⟩ 24 (0, 0))) := Wr.put (.inl rfl)
  have hle := w.sans (O := O) fun k hk => by rw [hk]; exact (h.op _ hmi).1
  have hlen5 : j < C.bl[i].2.pages.length := by rw [h5]; exact hj
  have hmem : ∀ q ∈ C.bl.set i (C.bl[i].1, { C.bl[i].2 with pages := C.bl[i].2.pages.set j b }), q = (C.bl[i].1, { C.bl[i].2 with pages := C.bl[i].2.pages.set j b }) ∨ q ∈ C.bl ∧ q.1 ≠ C.bl[i].1 := by
    intro q hq
    obtain ⟨k, hk, rfl⟩ := List.getElem_of_mem hq
    rw [List.length_set] at hk
    by_cases e : i = k
    · subst e; exact .inl (List.getElem_set_self _)
    · rw [List.getElem_set_ne e]
      refine .inr ⟨List.getElem_mem _, fun e2 => e ?_⟩
      have := (List.pairwise_iff_getElem.1 h.nd)
      rcases Nat.lt_or_gt_of_ne e with e | e
      · have := this i k (by rw [List.length_map]; exact hi) (by rw [List.length_map]; exact hk) e
        rw [List.getElem_map, List.getElem_map] at this
        exact absurd e2.symm this
      · have := this k i (by rw [List.length_map]; exact hk) (by rw [List.length_map]; exact hi) e
        rw [List.getElem_map, List.getElem_map] at this
        exact absurd e2 this
  refine ⟨bxc h3 j 1 (by rw [hdl]; omega), ⟨?_, ⟨cs, h1.see fun a o ha ho => by rw [View.see_put_ne _ _ ((h.ox a ha).2.2 _ hmi).symm]; exact ho, ?_⟩, fun q hq => ?_, h.oc, fun a ha => ⟨(h.ox a ha).1, (h.ox a ha).2.1, fun q hq => ?_⟩, fun q hq => ?_, ?_, h.lim, by show (C.bl.set i _).length ≤ 64; rw [List.length_set]; exact h.len⟩, w⟩
  · rw [View.see_put_ne _ _ (h.op _ hmi).2.symm]; 
    have := h.box
    unfold chpL at this ⊢
    exact this
  · obtain ⟨vs, ⟨e, hi1, hi2⟩, hg⟩ := h2.get i hi
    have hd : Rep.rep V vs ((C.bl[i].1, { C.bl[i].2 with pages := C.bl[i].2.pages.set j b }) : Pb) := ⟨by rw [e]; simp, hi1, hi2⟩
    have := repL.set hd h2 hi
    have e2 : putL cs (i * Rep.sz Pb) vs = cs := by
      have hvl := Rep.len hd
      have hcl := h2.len
      have hm := Nat.mul_le_mul_right (Rep.sz Pb) (show i + 1 ≤ C.bl.length by omega)
      rw [Nat.add_mul, Nat.one_mul] at hm
      have hb4 : i * Rep.sz Pb + vs.length ≤ cs.length := by rw [hcl, hvl]; exact hm
      rw [putL_eq _ _ _ hb4]
      refine List.ext_getElem? fun k => ?_
      by_cases k1 : k < i * Rep.sz Pb
      · rw [List.append_assoc, List.getElem?_append_left (by simp; omega), List.getElem?_take_of_lt k1]
      · by_cases k2 : k < i * Rep.sz Pb + vs.length
        · rw [List.append_assoc, List.getElem?_append_right (by simp; omega), List.getElem?_append_left (by simp; omega)]
          have := hg (k - i * Rep.sz Pb) vs[k - i * Rep.sz Pb] (List.getElem?_eq_getElem (by omega))
          rw [show i * Rep.sz Pb + (k - i * Rep.sz Pb) = k by omega] at this
          rw [this]
          simp only [List.length_take]
          rw [show k - min (i * Rep.sz Pb) cs.length = k - i * Rep.sz Pb by omega]
          exact List.getElem?_eq_getElem (by omega)
        · rw [List.getElem?_append_right (by simp; omega), List.getElem?_drop]
          congr 1
          simp; omega
    rw [e2] at this
    exact repL_any this
  · rcases hmem q hq with rfl | ⟨hq, e⟩
    rotate_left
    · obtain ⟨es, k3, k4, k5⟩ := h.pgs q hq
      exact ⟨es, by rw [View.see_put_ne _ _ e]; exact k3, k4.mono hle, k5⟩
    · refine ⟨putL ds j [.slice y.a y.n y.c], View.see_put_same _ _ _, ?_, by simp; exact h5⟩
      have hd : Rep.rep ((V.put C.bl[i].1 (.cells ⟨putL ds j [.slice y.a y.n y.c]⟩ 24 (0, 0))).sans O) [.slice y.a y.n y.c] b := ⟨y, rfl, hy.mono hle⟩
      have := repL.set hd (h4.mono hle) (i := j) hlen5
      rw [show Rep.sz (List UInt8) = 1 from rfl, Nat.mul_one] at this
      exact this
  · rcases List.mem_or_eq_of_mem_set hq with hq | rfl
    · exact (h.ox a ha).2.2 q hq
    · show C.bl[i].1 ≠ a.block; exact (h.ox a ha).2.2 _ hmi
  · rcases List.mem_or_eq_of_mem_set hq with hq | rfl
    · exact h.op q hq
    · show O C.bl[i].1 ∧ C.bl[i].1 ≠ c; exact h.op _ hmi
  · show ((C.bl.set i _).map Prod.fst).Nodup
    rw [List.map_set]
    show ((C.bl.map Prod.fst).set i C.bl[i].1).Nodup
    rw [show C.bl[i].1 = (C.bl.map Prod.fst)[i]'(by rw [List.length_map]; exact hi) by rw [List.getElem_map], List.set_getElem_self]
    exact h.nd
theorem seen_wr {B : Nat → Prop} {O : Nat → Prop} {V V' : View} (w : Wr B V V') (hO : ∀ i, O i → V.see i ≠ none) (hB : ∀ i, B i → V'.see i ≠ none) : ∀ i, O i → V'.see i ≠ none := fun i hi => by
  by_cases e : B i
  · exact hB i e
  · cases hs : V.see i with
    | none => exact absurd hs (hO i hi)
    | some o => rw [w.rest i o e hs]; simp
/-- What is a chip's own is seen. -/
theorem ChipR.seen {V : View} {O : Nat → Prop} {c : Nat} {x : Sl} {C : Chp} (h : ChipR V O c x C) {i : Nat} (hi : ChipO c x C i) : V.see i ≠ none := by
  rcases hi with rfl | ⟨a, ha, rfl⟩ | ⟨q, hq, rfl⟩
  · rw [h.box]; simp
  · obtain ⟨cs, hb, _⟩ := h.row
    rcases hb.own with ⟨h1, _⟩ | ⟨r, all, h1, h2, _⟩
    · rw [h1] at ha; cases ha
    · rw [h1] at ha; cases ha; rw [h2]; simp
  · obtain ⟨ds, h3, _⟩ := h.pgs q hq; rw [h3]; simp
theorem chipRead_ok {V : View} {O : Nat → Prop} {c : Nat} {x : Sl} {C : Chp} (h : ChipR V O c x C) (hO : ∀ i, O i → V.see i ≠ none) {i j : Nat} (hi : i < C.bl.length) (hj : j < C.pages) (hp : C.bl[i].2.pages.length = C.pages) (hd : C.down = false) (hr : inI .i64 (C.reads + 1)) (hsz : (C.bl[i].2.pages[j]'(by omega)).length ≤ 2000) :
    CallV Tryz.prog 44 ⟨[.pointer (some ⟨c, 0, none⟩), .agg ⟨[.int .i64 i, .int .i64 j]⟩]⟩ V fun r V' => ∃ y : Sl, r = .tuple ⟨[.slice y.a y.n y.c, .int .i64 0]⟩ ∧ ChipR V' O c x { C with reads := C.reads + 1 } ∧ Wr (· = c) V V' ∧ SlR (V'.sans O) y (C.bl[i].2.pages[j]'(by omega)) ∧ (∀ i, O i → V'.see i ≠ none) := by
  refine f44_x ?_
  unfold f44_n
  intro _
  refine (spot_ok h i j).mono ?_
  rintro r V1 ⟨rfl, rfl⟩
  rw [decide_eq_true (show (0 : Int) ≤ (i : Int) ∧ (i : Int) < C.bl.length ∧ (0 : Int) ≤ (j : Int) ∧ (j : Int) < C.pages by omega)]
  refine ⟨_, rfl, br_intro (fun h0 => by cases h0) (fun _ => ⟨_, rfl, _, h.cell 9 rfl, br_intro (fun h0 => by rw [hd] at h0; cases h0) (fun _ => ?_)⟩)⟩
  have e2 : ((⟨c, 0, none⟩ : Addr).add 2).add 0 = (⟨c, 0, none⟩ : Addr).add 2 := Addr.add_zero _
  refine ⟨_, rfl, _, by rw [e2]; exact h.cell 2 rfl, hr, _, rfl, by rw [e2]; exact bxc h.box 2 1 (by simp [chpL]), trivial, ?_⟩
  rw [e2, bxe h.box]
  obtain ⟨h1, w1⟩ := h.setBox (C' := { C with reads := C.reads + 1 }) rfl rfl
  have e3 : putL (chpL x C) 2 [.int .i64 (C.reads + 1)] = chpL x { C with reads := C.reads + 1 } := rfl
  rw [e3]
  have hO1 := seen_wr w1 hO fun i hi => by rw [hi, h1.box]; simp
  generalize V1.put c (.cells ⟨chpL x { C with reads := C.reads + 1 }⟩ 113 (0, 0)) = W at *
  have hxn := h1.xn
  obtain ⟨ad, ha, hc, _, _⟩ := h1.blkAt (i := i) hi
  obtain ⟨ds, h3, h4, h5⟩ := h1.pgs _ (List.getElem_mem hi)
  have hjl : j < C.bl[i].2.pages.length := by omega
  obtain ⟨vs, ⟨s, rfl, hs⟩, hg⟩ := h4.get j hjl
  refine ⟨W, View.Le.refl _, _, rfl, x, h1.cell 0 rfl, by omega, by show (i : Int) < (x.n : Int); rw [hxn]; show (i : Int) < (C.bl.length : Int); omega, ad, ha, ⟨some ⟨C.bl[i].1, 0, none⟩, C.bl[i].2.pages.length, C.bl[i].2.pages.length⟩, ?_, by omega, ?_, _, rfl, s, ?_, ?_⟩
  · exact hc 3 _ rfl
  · show (j : Int) < (C.bl[i].2.pages.length : Int); omega
  · rw [Int.toNat_natCast]; refine bx h3 _ ?_
    have := hg 0 _ rfl
    rw [show Rep.sz (List UInt8) = 1 from rfl] at this; exact this
  · refine (CallV.apart hO1 ((clone8_ok hs (by omega)).mono fun r U' ⟨z, k1, k2⟩ => ⟨(⟨z, k1, k2⟩ : ∃ z : Sl, r = .slice z.a z.n z.c ∧ Fresh8 (W.sans O) U' z C.bl[i].2.pages[j]), k2.vle⟩)).mono ?_
    rintro r V4 ⟨U, ⟨z, rfl, hz⟩, hU1, hU2, hV4⟩
    refine ⟨z, rfl, z, rfl, h1.le hV4, w1.trans (.of hV4), hz.slR.mono hU2, fun i hi => ?_⟩
    cases hs : W.see i with
    | none => exact absurd hs (hO1 i hi)
    | some o => rw [hV4.see _ _ hs]; simp
/-- Block i has a page more. -/
def progC (C : Chp) (i : Nat) (b : List UInt8) (hi : i < C.bl.length) : Chp := { C with progs := C.progs + 1, bl := C.bl.set i (C.bl[i].1, { C.bl[i].2 with nxt := C.bl[i].2.nxt + 1, pages := C.bl[i].2.pages.set C.bl[i].2.nxt.toNat b }) }
theorem program_ok {V : View} {O : Nat → Prop} {c : Nat} {x s : Sl} {C : Chp} (h : ChipR V O c x C) (hO : ∀ i, O i → V.see i ≠ none) {i j : Nat} (hi : i < C.bl.length) (hj : j < C.pages) (hjn : C.bl[i].2.nxt = j) (hb : C.bl[i].2.bad = false) (hd : C.down = false) (hc1 : C.cut = -1) (hc2 : C.fail = -1) (hr : inI .i64 (C.progs + 1)) {b : List UInt8} (hs : SlR (V.sans O) s b) (hb1 : 1 ≤ b.length) (hb2 : b.length ≤ 2000) :
    CallV Tryz.prog 119 ⟨[.pointer (some ⟨c, 0, none⟩), .agg ⟨[.int .i64 i, .int .i64 j]⟩, .slice s.a s.n s.c]⟩ V fun r V' => r = .int .i64 0 ∧ ChipR V' O c x (progC C i b hi) ∧ Wr (ChipO c x C) V V' ∧ (∀ i, O i → V'.see i ≠ none) := by
  refine f119_x ?_
  unfold f119_n
  intro _
  refine (spot_ok h i j).mono ?_
  rintro r V1 ⟨rfl, rfl⟩
  have hsn := hs.n
  have hxn := h.xn
  have hlim := h.lim
  rw [decide_eq_true (show (0 : Int) ≤ (i : Int) ∧ (i : Int) < C.bl.length ∧ (0 : Int) ≤ (j : Int) ∧ (j : Int) < C.pages by omega), decide_eq_false (show ¬ ((s.n : Int) < 1) by omega), decide_eq_false (show ¬ ((2000 : Int) < (s.n : Int)) by omega)]
  refine ⟨_, rfl, br_intro (fun h0 => by cases h0) (fun _ => ⟨trivial, V1, View.Le.refl _, _, rfl, x, h.cell 0 rfl, by omega, by omega, ?_⟩)⟩
  obtain ⟨ad, ha, hc, hi1, hi2⟩ := h.blkAt hi
  rw [Int.toNat_natCast]
  refine ⟨ad, ha, _, rfl, _, h.cell 9 rfl, br_intro (fun h0 => by rw [hd] at h0; cases h0) (fun _ => ⟨_, rfl, C.bl[i].2.bad, by rw [Addr.add_zero]; have := hc 0 _ rfl; rwa [Addr.add_zero] at this, br_intro (fun h0 => by rw [hb] at h0; cases h0) (fun _ => ?_)⟩)⟩
  refine ⟨trivial, V1, View.Le.refl _, _, rfl, C.bl[i].2.nxt, hc 1 _ rfl, br_intro (fun h0 => ?_) (fun _ => ?_)⟩
  · rw [hjn] at h0; simp at h0
  have e2 : ((⟨c, 0, none⟩ : Addr).add 2).add 1 = (⟨c, 0, none⟩ : Addr).add 3 := Addr.add_add _ _ _
  refine ⟨_, rfl, C.progs, by rw [e2]; exact h.cell 3 rfl, hr, _, rfl, by rw [e2]; exact bxc h.box 3 1 (by simp [chpL]), ?_⟩
  rw [e2, bxe h.box]
  obtain ⟨h1, w1⟩ := h.setBox (C' := { C with progs := C.progs + 1 }) rfl rfl
  have e3 : putL (chpL x C) 3 [.int .i64 (C.progs + 1)] = chpL x { C with progs := C.progs + 1 } := rfl
  rw [e3]
  have hO1 := seen_wr w1 hO fun i hi => by rw [hi, h1.box]; simp
  generalize V1.put c (.cells ⟨chpL x { C with progs := C.progs + 1 }⟩ 113 (0, 0)) = W1 at *
  obtain ⟨ad1, ha1, hc1', hi1', hi2'⟩ := h1.blkAt (i := i) hi
  rw [ha] at ha1; cases ha1
  have hnn : inI .i64 (C.bl[i].2.nxt + 1) := by rw [hjn]; exact inI64 (by omega) (by omega)
  obtain ⟨ad2, ha2, g1, h2, w2⟩ := h1.setNxt (i := i) hi hnn
  rw [ha] at ha2; cases ha2
  refine ⟨_, rfl, C.bl[i].2.nxt, hc1' 1 _ rfl, hnn, _, rfl, g1, trivial, _, rfl, _, rfl, ?_⟩
  have hO2 := seen_wr w2 hO1 fun k hk => by
    obtain ⟨a, ha', rfl⟩ := hk
    exact h2.seen (.inr (.inl ⟨a, ha', rfl⟩))
  generalize W1.sets ((ad.add (i * 4)).add 1) [.int .i64 (C.bl[i].2.nxt + 1)] = W2 at *
  refine (comes_ok h2.box (j := 7) (n := -1) (by show some (Value.int .i64 C.cut) = _; rw [hc1]) (inI64 (by omega) (by omega))).mono ?_
  rintro r W3 ⟨rfl, rfl⟩
  refine ⟨_, rfl, ?_⟩
  have e4 : ∀ C' : Chp, C'.cut = -1 → putL (chpL x C') 7 [.int .i64 (max (-1 - 1) (-1))] = chpL x C' := fun C' h => by
    unfold chpL; rw [h]; rfl
  have e5 : ∀ C' : Chp, C'.fail = -1 → putL (chpL x C') 5 [.int .i64 (max (-1 - 1) (-1))] = chpL x C' := fun C' h => by
    unfold chpL; rw [h]; rfl
  rw [e4 (nxtC { C with progs := C.progs + 1 } i hi (C.bl[i].2.nxt + 1)) hc1]
  obtain ⟨h3, w3⟩ := h2.setBox (C' := nxtC { C with progs := C.progs + 1 } i hi (C.bl[i].2.nxt + 1)) rfl rfl
  have hO3 := seen_wr w3 hO2 fun i hi => by rw [hi, h3.box]; simp
  refine (comes_ok h3.box (j := 5) (n := -1) (by show some (Value.int .i64 C.fail) = _; rw [hc2]) (inI64 (by omega) (by omega))).mono ?_
  rintro r W4 ⟨rfl, rfl⟩
  refine ⟨_, rfl, br_intro (fun h0 => by cases h0) (fun _ => br_intro (fun h0 => by cases h0) (fun _ => ?_))⟩
  rw [e5 (nxtC { C with progs := C.progs + 1 } i hi (C.bl[i].2.nxt + 1)) hc2]
  obtain ⟨h4, w4⟩ := h3.setBox (C' := nxtC { C with progs := C.progs + 1 } i hi (C.bl[i].2.nxt + 1)) rfl rfl
  have hO4 := seen_wr w4 hO3 fun i hi => by rw [hi, h4.box]; simp
  have hs4 : SlR ((W2.put c (.cells ⟨chpL x (nxtC { C with progs := C.progs + 1 } i hi (C.bl[i].2.nxt + 1))⟩ 113 (0, 0))).put c (.cells ⟨chpL x (nxtC { C with progs := C.progs + 1 } i hi (C.bl[i].2.nxt + 1))⟩ 113 (0, 0)) |>.sans O) s b :=
    (((hs.mono (w1.sans fun k hk => by rw [hk]; exact h.oc)).mono (w2.sans fun k hk => by obtain ⟨a, ha', rfl⟩ := hk; exact (h.ox a ha').1)).mono (w3.sans fun k hk => by rw [hk]; exact h.oc)).mono (w4.sans fun k hk => by rw [hk]; exact h.oc)
  have wAll := ((w1.imp (B' := ChipO c x C) fun k hk => .inl hk).trans (w2.imp fun k hk => .inr (.inl hk))).trans ((w3.imp fun k hk => .inl hk).trans (w4.imp fun k hk => .inl hk))
  generalize ((W2.put c (.cells ⟨chpL x (nxtC { C with progs := C.progs + 1 } i hi (C.bl[i].2.nxt + 1))⟩ 113 (0, 0))).put c (.cells ⟨chpL x (nxtC { C with progs := C.progs + 1 } i hi (C.bl[i].2.nxt + 1))⟩ 113 (0, 0))) = W4 at *
  have hiN : i < (nxtC { C with progs := C.progs + 1 } i hi (C.bl[i].2.nxt + 1)).bl.length := by
    show i < (C.bl.set i _).length
    rw [List.length_set]; exact hi
  have eN : (nxtC { C with progs := C.progs + 1 } i hi (C.bl[i].2.nxt + 1)).bl[i] = (C.bl[i].1, { C.bl[i].2 with nxt := C.bl[i].2.nxt + 1 }) := List.getElem_set_self _
  obtain ⟨ad4, ha4, hc4, _, _⟩ := h4.blkAt hiN
  rw [ha] at ha4; cases ha4
  have hpl : C.bl[i].2.pages.length = C.pages := by
    obtain ⟨_, _, _, h5⟩ := h.pgs _ (List.getElem_mem hi); exact h5
  rw [eN] at hc4
  refine ⟨trivial, W4, View.Le.refl _, _, rfl, ⟨some ⟨C.bl[i].1, 0, none⟩, C.bl[i].2.pages.length, C.bl[i].2.pages.length⟩, hc4 3 _ rfl, ?_⟩
  refine (CallV.apart hO4 ((stands_ok hs4 s.n hb2).mono fun r U' ⟨z, k1, k2⟩ => ⟨(⟨z, k1, k2⟩ : ∃ z : Sl, r = .slice z.a z.n z.c ∧ Fresh8 (W4.sans O) U' z (b.take s.n)), k2.vle⟩)).mono ?_
  rintro r V5 ⟨U, ⟨z, rfl, hz⟩, hU1, hU2, hV5⟩
  have hz5 := hz.slR.mono hU2
  rw [List.take_of_length_le (by omega)] at hz5
  obtain ⟨g5, h6, w6⟩ := (h4.le hV5).setPage (i := i) (j := j) hiN hj hz5
  rw [eN] at g5 h6 w6
  refine ⟨z, rfl, hV5, by omega, by show (j : Int) < (C.bl[i].2.pages.length : Int); omega, _, rfl, by rw [Int.toNat_natCast]; exact g5, rfl, ?_, ?_, ?_⟩
  · rw [Int.toNat_natCast]
    have e : pageC (nxtC { C with progs := C.progs + 1 } i hi (C.bl[i].2.nxt + 1)) i hiN j b = progC C i b hi := by
      unfold pageC progC
      rw [eN, hjn, Int.toNat_natCast]
      show ({ (nxtC { C with progs := C.progs + 1 } i hi (j + 1)) with bl := (C.bl.set i _).set i _ } : Chp) = _
      rw [List.set_set]; rfl
    rw [← e]; exact h6
  · rw [Int.toNat_natCast]
    exact (wAll.trans (.of hV5)).trans (w6.imp fun k hk => .inr (.inr ⟨_, List.getElem_mem hi, hk.symm⟩))
  · rw [Int.toNat_natCast]
    refine seen_wr ((Wr.of (B := fun _ => False) hV5).imp (B' := fun k => k = C.bl[i].1) (fun _ h => h.elim) |>.trans w6) hO4 fun k hk => ?_
    rw [hk]
    exact h6.seen (.inr (.inr ⟨_, List.mem_iff_getElem.2 ⟨i, by show i < ((C.bl.set i _).set i _).length; rw [List.length_set, List.length_set]; exact hi, List.getElem_set_self _⟩, by first | rfl | rw [eN]⟩))
def badN (l : List Blk) : Nat := l.countP (·.bad)
theorem badN_le (l : List Blk) : badN l ≤ l.length := List.countP_le_length
theorem blkBad_ok {V : View} {s : Sl} {l : List Blk} (h : SlR V s l) : CallV Tryz.prog 27 ⟨[.slice s.a s.n s.c]⟩ V fun r V' => r = .int .i64 (badN l) ∧ V' = V := by
  refine f27_x ?_
  unfold f27_n
  have hn := h.n
  have hlim := h.lim
  refine loop2 (k := .int .i64) (l := .int .i64) (fun (n i : Int) V' => ∃ j : Nat, i = j ∧ j ≤ l.length ∧ n = badN (l.take j) ∧ V' = V) (fun _ (i : Int) _ => l.length - i.toNat) ⟨0, rfl, Nat.zero_le _, rfl, rfl⟩ ?_
  rintro (n : Int) (i : Int) V' ⟨j, rfl, hj, rfl, rfl⟩
  have hb := badN_le (l.take j)
  rw [List.length_take] at hb
  refine br_intro (fun hlt => ?_) (fun hge => ?_)
  · have hlt : j < l.length := by have := of_decide_eq_true hlt; omega
    obtain ⟨ad, y, hx, ha, hc, _, _, _⟩ := h.blk (x := (j : Int)) (by omega) (by omega)
    have hstep : badN (l.take (j + 1)) = badN (l.take j) + if l[(j : Int).toNat].bad then 1 else 0 := by
      unfold badN
      rw [List.take_add_one, List.getElem?_eq_getElem hlt, List.countP_append]
      simp [List.countP_cons]
    refine ⟨by omega, by omega, ad, ha, _, _, _, y, hc, fun _ => ?_⟩
    refine joinP_cut (fun z V1 => z.1 = (badN (l.take (j + 1)) : Int) ∧ V1 = V') (br_intro (fun hb1 => ⟨inI64 (by omega) (by omega), ?_, rfl⟩) (fun hb1 => ⟨?_, rfl⟩)) (fun z V1 hz => ?_)
    · show (badN (l.take j) : Int) + 1 = _
      rw [hstep, if_pos hb1]; simp
    · show (badN (l.take j) : Int) = _
      rw [hstep, if_neg (by rw [hb1]; simp)]; simp
    · rcases z with ⟨z, ⟨⟩⟩
      obtain ⟨hz, rfl⟩ := hz
      try simp only at hz
      dsimp only [unc]
      exact ⟨inI64 (by omega) (by omega), ⟨j + 1, by omega, by omega, hz, rfl⟩, by omega⟩
  · have hge : j = l.length := by have := of_decide_eq_false hge; omega
    subst hge
    rw [List.take_length] at hb ⊢
    exact ⟨rfl, rfl⟩
def cleanB (b : Blk) : Bool := !b.bad && decide (b.nxt = 0)
theorem blkClean_ok {V : View} (b : Blk) (y : Sl) : CallV Tryz.prog 130 ⟨[.agg ⟨[.bool b.bad, .int .i64 b.nxt, .int .i64 b.cnt, .slice y.a y.n y.c]⟩]⟩ V fun r V' => r = .bool (cleanB b) ∧ V' = V := by
  refine f130_x ?_
  unfold f130_n
  intro _
  refine ⟨?_, rfl⟩
  unfold cleanB
  cases b.bad <;> rfl
/-- The places of clean blocks, below k. -/
def cleansU (l : List Blk) (k : Nat) : List Int := ((List.range k).filter fun i => cleanB (l.getD i default)).map fun (i : Nat) => (i : Int)
theorem cleansU_succ (l : List Blk) (k : Nat) : cleansU l (k + 1) = cleansU l k ++ if cleanB (l.getD k default) then [(k : Int)] else [] := by
  unfold cleansU
  rw [List.range_succ, List.filter_append, List.map_append]
  congr 1
  cases h : cleanB (l.getD k default) <;> simp only [List.filter_cons, List.filter_nil, h, if_true, List.map_cons, List.map_nil] <;> rfl
theorem cleansU_len (l : List Blk) (k : Nat) : (cleansU l k).length ≤ k := by
  unfold cleansU
  rw [List.length_map]
  exact Nat.le_trans (List.length_filter_le _ _) (by simp)
theorem blkCleans_ok {V : View} {s : Sl} {l : List Blk} (h : SlR V s l) (hl : l.length ≤ 64) : CallV Tryz.prog 107 ⟨[.slice s.a s.n s.c]⟩ V fun r V' => ∃ y : Sl, r = .slice y.a y.n y.c ∧ V.Le V' ∧ SlR V' y (cleansU l l.length) := by
  refine f107_x ?_
  unfold f107_n
  have hn := h.n
  refine loop2 (k := .sl) (l := .int .i64) (fun (o : Sl) (i : Int) V' => ∃ (j : Nat) (cs : List Value), i = j ∧ j ≤ l.length ∧ Buf V' o 3 1 cs ∧ repL (V'.minus o) cs (cleansU l j) ∧ V.Le (V'.minus o)) (fun _ (i : Int) _ => l.length - i.toNat) ⟨0, [], rfl, Nat.zero_le _, Buf.nil _ _ _, rfl, View.Le.refl _⟩ ?_
  rintro (o : Sl) (i : Int) V1 ⟨j, cs, rfl, hj, hb, hr, hle⟩
  have hV1 : V.Le V1 := hle.trans (View.minus_le _ _)
  refine br_intro (fun hlt => ?_) (fun hge => ?_)
  · have hlt : j < l.length := by have := of_decide_eq_true hlt; omega
    obtain ⟨ad, y, hx, ha, hc, _, _, _⟩ := (h.mono hV1).blk (x := (j : Int)) (by omega) (by omega)
    refine ⟨by omega, by omega, ad, ha, _, _, _, y, hc, fun _ => (blkClean_ok _ _).mono ?_⟩
    rintro r V2 ⟨rfl, rfl⟩
    have hg : l.getD j default = l[(j : Int).toNat] := by rw [List.getD_eq_getElem?_getD, List.getElem?_eq_getElem hlt]; rfl
    have hst := cleansU_succ l j
    rw [hg] at hst
    have hcl := cleansU_len l j
    have hon := hb.n_eq (α := Int) hr
    refine ⟨_, rfl, joinP_cut (fun z V' => ∃ cs, Buf V' z.1 3 1 cs ∧ repL (V'.minus z.1) cs (cleansU l (j + 1)) ∧ V.Le (V'.minus z.1)) (br_intro (fun h1 r hr1 => ?_) (fun h1 => ⟨cs, hb, ?_, hle⟩)) (fun z V' hz => ?_)⟩
    · refine app0 (α := Int) (V0 := V) rfl hb hr (d := (j : Int)) (vs := [.int .i64 (j : Int)]) ⟨rfl, inI64 (by omega) (by omega)⟩ hle hr1 rfl (by show (o.n + 1) * 8 ≤ _; omega) (by show o.n + 1 ≤ _; omega) fun s V' cs' h2 h3 h4 => ⟨cs', h2, ?_, h4⟩
      rw [hst, if_pos h1]; exact h3
    · rw [hst, if_neg (by rw [h1]; simp), List.append_nil]; exact hr
    · rcases z with ⟨z, ⟨⟩⟩
      obtain ⟨cs', h2, h3, h4⟩ := hz
      dsimp only [unc]
      exact ⟨inI64 (by omega) (by omega), ⟨j + 1, cs', by omega, by omega, h2, h3, h4⟩, by omega⟩
  · have hge : j = l.length := by have := of_decide_eq_false hge; omega
    subst hge
    exact ⟨o, rfl, hV1, hb.slR hr (View.minus_le _ _)⟩
def blkV0 (b : Blk) (y : Sl) : Value := .agg ⟨[.bool b.bad, .int .i64 b.nxt, .int .i64 b.cnt, .slice y.a y.n y.c]⟩
theorem blkLeft_ok {V : View} (b : Blk) (y : Sl) (pages : Nat) (hp : pages ≤ 32) (hn : 0 ≤ b.nxt ∧ b.nxt ≤ 64) : CallV Tryz.prog 117 ⟨[blkV0 b y, .int .i64 pages]⟩ V fun r V' => r = .int .i64 (if b.bad = true ∨ (pages : Int) ≤ b.nxt then 0 else pages - b.nxt) ∧ V' = V := by
  refine f117_x ?_
  unfold f117_n
  intro _
  refine br_intro (fun h => ⟨?_, rfl⟩) (fun h => ⟨inI64 (by omega) (by omega), br_intro (fun h1 => ?_) (fun h1 => ⟨inI64 (by omega) (by omega), ?_, rfl⟩)⟩)
  · rw [if_pos]
    cases hb : b.bad with
    | true => exact .inl rfl
    | false => rw [hb] at h; exact .inr (of_decide_eq_true h)
  · have h1 := of_decide_eq_true h1
    cases hb : b.bad with
    | true => rw [hb] at h; cases h
    | false => rw [hb] at h; have := of_decide_eq_false (show decide ((pages : Int) ≤ b.nxt) = false from h); omega
  · rw [if_neg]
    cases hb : b.bad with
    | true => rw [hb] at h; cases h
    | false => rw [hb] at h; have := of_decide_eq_false (show decide ((pages : Int) ≤ b.nxt) = false from h); simp; omega
theorem app8 {U V : View} {x : Sl} {l : List UInt8} {r : Nat} {C : Sl → View → Prop} (h : Fresh8 U V x l) (hr : V.see r = some (.cells ⟨[.int .u8 90]⟩ 5 (0, 0))) (hl : l.length ≤ 1000000) (hC : ∀ s V', Fresh8 U V' s (l ++ [90]) → V'.size = V'.size → C s V') :
    apV V 5 1 1 [.int .u8 0] ⟨x.a, x.n, x.c⟩ (.slice (some ⟨r, 0, none⟩) 1 1) C := by
  have hn : x.n = l.length := by have := h.buf.len; rw [u8s_len] at this; omega
  refine apV_buf rfl h.buf (src := [.int .u8 90]) (m := 1) ⟨rfl, rowAt_new hr rfl⟩ rfl rfl (by show (x.n + 1) * 1 ≤ _; omega) (by show x.n + 1 ≤ _; omega) fun s V' hb _ hle => hC s V' ⟨?_, h.le.trans hle⟩ rfl
  rw [u8s_append]; exact hb
theorem laid_ok {V : View} {s : Sl} {d : List UInt8} {p q : Int} (h : SlR V s d) (hd : d.length ≤ 2000) : CallV Tryz.prog 116 ⟨[.agg ⟨[.int .i64 p, .int .i64 q, .slice s.a s.n s.c]⟩]⟩ V fun r V' => ∃ y : Sl, r = .slice y.a y.n y.c ∧ Fresh8 V V' y (laidS p q d) := by
  refine f116_x ?_
  unfold f116_n
  intro _
  have lp := numI_len p
  have lq := numI_len q
  have lt := textL_len d
  have l1 : ([] ++ numI p : List UInt8).length ≤ 7 := by simpa using lp
  have l2 : (([] ++ numI p) ++ numI q : List UInt8).length ≤ 14 := by rw [List.length_append]; omega
  have l3 : ((([] ++ numI p) ++ numI q) ++ textL d : List UInt8).length ≤ 3000 := by rw [List.length_append]; omega
  have step1 : ∀ {W : View}, CallV Tryz.prog 135 ⟨[.slice none 0 0, .int .i64 p]⟩ W fun r V' => ∃ x : Sl, r = .slice x.a x.n x.c ∧ Fresh8 W V' x ([] ++ numI p) := fun {W} => number8_ok (s := ⟨none, 0, 0⟩) (SlR.nil W none 0) (by simp)
  have fr : ∀ {W : View} {r : Nat} {o : Obj}, W.size ≤ r → W.Le (W.put r o) := fun h => View.put_le (View.see_none_of_ge h)
  refine joinP_cut (fun z V' => Fresh8 V V' z.1 (laidS p q d)) ⟨trivial, V, View.Le.refl _, ?_, ?_⟩ (fun z V' hz => ⟨z.1, rfl, hz⟩)
  · refine step1.mono ?_
    rintro r V1 ⟨x1, rfl, h1⟩
    refine ⟨x1, rfl, h1.vle, ?_, fun r hr => ⟨h1.vle.trans (fr hr), ?_⟩⟩
    · refine (number8_ok h1.slR (by omega)).mono ?_
      rintro r V2 ⟨x2, rfl, h2⟩
      refine ⟨x2, rfl, h1.vle.trans h2.vle, ?_, fun r hr => ⟨(h1.vle.trans h2.vle).trans (fr hr), ?_⟩⟩
      · refine (text8_ok h2.slR (h.mono (h1.vle.trans h2.vle)) (by omega)).mono ?_
        rintro r V3 ⟨x3, rfl, h3⟩
        refine ⟨x3, rfl, (h1.vle.trans h2.vle).trans h3.vle, fun r hr => ⟨((h1.vle.trans h2.vle).trans h3.vle).trans (fr hr), ?_⟩⟩
        exact app8 ⟨h3.buf.put (View.see_none_of_ge hr), ((h1.vle.trans h2.vle).trans h3.le).trans (put_minus_le (View.see_none_of_ge hr))⟩ (View.see_put_same _ _ _) (by omega) fun s V' hs _ => hs
      · refine (text8_ok (h2.slR.mono (fr hr)) (h.mono ((h1.vle.trans h2.vle).trans (fr hr))) (by omega)).mono ?_
        rintro r' V3 ⟨x3, rfl, h3⟩
        refine ⟨x3, rfl, ((h1.vle.trans h2.vle).trans (fr hr)).trans h3.vle, ?_⟩
        exact app8 ⟨h3.buf, ((h1.vle.trans h2.vle).trans (fr hr)).trans h3.le⟩ (h3.vle.see _ _ (View.see_put_same _ _ _)) (by omega) fun s V' hs _ => hs
    · refine (number8_ok (h1.slR.mono (fr hr)) (by omega)).mono ?_
      rintro r' V2 ⟨x2, rfl, h2⟩
      refine ⟨x2, rfl, (h1.vle.trans (fr hr)).trans h2.vle, ?_⟩
      refine (text8_ok h2.slR (h.mono ((h1.vle.trans (fr hr)).trans h2.vle)) (by omega)).mono ?_
      rintro r' V3 ⟨x3, rfl, h3⟩
      refine ⟨x3, rfl, ((h1.vle.trans (fr hr)).trans h2.vle).trans h3.vle, ?_⟩
      exact app8 ⟨h3.buf, ((h1.vle.trans (fr hr)).trans h2.vle).trans h3.le⟩ (h3.vle.see _ _ (h2.vle.see _ _ (View.see_put_same _ _ _))) (by omega) fun s V' hs _ => hs
  · intro r hr
    refine ⟨fr hr, step1.mono ?_⟩
    rintro r' V1 ⟨x1, rfl, h1⟩
    refine ⟨x1, rfl, (fr hr).trans h1.vle, (number8_ok h1.slR (by omega)).mono ?_⟩
    rintro r' V2 ⟨x2, rfl, h2⟩
    refine ⟨x2, rfl, ((fr hr).trans h1.vle).trans h2.vle, (text8_ok h2.slR (h.mono (((fr hr).trans h1.vle).trans h2.vle)) (by omega)).mono ?_⟩
    rintro r' V3 ⟨x3, rfl, h3⟩
    refine ⟨x3, rfl, (((fr hr).trans h1.vle).trans h2.vle).trans h3.vle, ?_⟩
    exact app8 ⟨h3.buf, (((fr hr).trans h1.vle).trans h2.vle).trans h3.le⟩ (h3.vle.see _ _ (h2.vle.see _ _ (h1.vle.see _ _ (View.see_put_same _ _ _)))) (by omega) fun s V' hs _ => hs
theorem sheetMay_ok {V : View} {s : Sl} {d : List UInt8} {p q : Int} (h : SlR V s d) : CallV Tryz.prog 74 ⟨[.agg ⟨[.int .i64 p, .int .i64 q, .slice s.a s.n s.c]⟩]⟩ V fun r V' => r = .bool (mayS p q d) ∧ V.Le V' := by
  refine f74_x ?_
  unfold f74_n
  intro _
  have hn := h.n
  refine joinP_cut (fun z V' => z.1 = mayS p q d ∧ V.Le V') (br_intro (fun h0 => ?_) (fun h0 => ⟨?_, View.Le.refl _⟩)) (fun z V' hz => ?_)
  · simp only [bif_dec] at h0
    have h0 := of_decide_eq_true h0
    refine (laid_ok h (by omega)).mono ?_
    rintro r V1 ⟨y, rfl, hy⟩
    have hyn := hy.slR.n
    refine ⟨y, rfl, ?_, hy.vle⟩
    show decide ((y.n : Int) ≤ 2000) = mayS p q d
    unfold mayS
    by_cases e : (y.n : Int) ≤ 2000
    · rw [decide_eq_true e, decide_eq_true (by omega)]
    · rw [decide_eq_false e, decide_eq_false (by omega)]
  · simp only [bif_dec] at h0
    have h0 := of_decide_eq_false h0
    unfold mayS
    exact (decide_eq_false (by omega)).symm
  · rcases z with ⟨z, ⟨⟩⟩
    obtain ⟨hz, hV⟩ := hz
    try simp only at hz
    dsimp only [unc]
    exact ⟨by rw [hz], hV⟩
theorem sheetBytes_ok {V : View} {s : Sl} {d : List UInt8} {p q : Int} (h : SlR V s d) (hm : MayS p q d) : CallV Tryz.prog 75 ⟨[.agg ⟨[.int .i64 p, .int .i64 q, .slice s.a s.n s.c]⟩]⟩ V fun r V' => ∃ y : Sl, r = .tuple ⟨[.slice y.a y.n y.c, .int .i64 0]⟩ ∧ SlR V' y (laidS p q d) ∧ V.Le V' := by
  refine f75_x ?_
  unfold f75_n
  intro _
  refine (sheetMay_ok h).mono ?_
  rintro r V1 ⟨rfl, hV1⟩
  refine ⟨_, rfl, br_intro (fun h0 => ?_) (fun _ => ?_)⟩
  · rw [mayS_iff.2 hm] at h0; cases h0
  · refine (laid_ok (h.mono hV1) hm.dl).mono ?_
    rintro r V2 ⟨y, rfl, hy⟩
    exact ⟨y, rfl, y, rfl, hy.slR, hV1.trans hy.vle⟩
abbrev P2 := Int × Int
def encP (p : P2) : Value := .agg ⟨[.int .i64 p.1, .int .i64 p.2]⟩
theorem encP_eq (p q : P2) : keyEq (encP p) (encP q) = some (decide (p = q)) := by
  obtain ⟨a, b⟩ := p
  obtain ⟨c, d⟩ := q
  have e : decide ((a, b) = (c, d)) = (decide (a = c) && (decide (b = d) && true)) := by
    rw [Bool.and_true, ← Bool.decide_and]
    exact decide_eq_decide.2 (by rw [Prod.mk.injEq])
  rw [e]; rfl
theorem encP_inj {p q : P2} (h : encP p = encP q) : p = q := by
  obtain ⟨a, b⟩ := p
  obtain ⟨c, d⟩ := q
  simp only [encP, Value.agg.injEq, Array.mk.injEq, List.cons.injEq, Value.int.injEq] at h
  rw [h.1.2, h.2.1.2]
/-- What a map holds: these, in this order; no key twice. -/
structure MapC (es : Array MapEntry) (cl : Nat) (l : List (P2 × P2)) : Prop where
  kv : es.toList.map (fun e => (e.key, e.val)) = l.map fun p => (encP p.1, encP p.2)
  keys : (l.map Prod.fst).Nodup
  born : (es.toList.map (·.born)).Nodup
  lt : ∀ e ∈ es.toList, e.born < cl
theorem MapC.nil : MapC #[] 0 [] := ⟨rfl, List.nodup_nil, List.nodup_nil, fun _ h => by cases h⟩
theorem MapC.size {es : Array MapEntry} {cl : Nat} {l : List (P2 × P2)} (h : MapC es cl l) : es.size = l.length := by
  have := congrArg List.length h.kv
  simpa using this
theorem MapC.at {es : Array MapEntry} {cl : Nat} {l : List (P2 × P2)} (h : MapC es cl l) {i : Nat} (hi : i < l.length) : ∃ e, es.toList[i]? = some e ∧ e.key = encP l[i].1 ∧ e.val = encP l[i].2 := by
  have h1 := congrArg (fun m : List (Value × Value) => m[i]?) h.kv
  simp only [List.getElem?_map, List.getElem?_eq_getElem hi, Option.map_some] at h1
  cases he : es.toList[i]? with
  | none => rw [he] at h1; cases h1
  | some e =>
    rw [he] at h1
    simp only [Option.map_some, Option.some.injEq, Prod.mk.injEq] at h1
    exact ⟨e, rfl, h1.1, h1.2⟩
/-- Where a key stands. -/
theorem mfind_kv {k : P2} : ∀ {es : List MapEntry} {l : List (P2 × P2)} (i : Nat), es.map (fun e => (e.key, e.val)) = l.map (fun p => (encP p.1, encP p.2)) →
    ∃ f, mfind (encP k) es i = some f ∧ ((f = none ∧ k ∉ l.map Prod.fst) ∨ ∃ j, ∃ h : j < l.length, f = some (i + j, encP l[j].2) ∧ l[j].1 = k)
  | [], [], i, _ => ⟨none, rfl, .inl ⟨rfl, by simp⟩⟩
  | [], _ :: _, _, h => by cases h
  | _ :: _, [], _, h => by cases h
  | e :: es, p :: l, i, h => by
    simp only [List.map_cons, List.cons.injEq, Prod.mk.injEq] at h
    obtain ⟨⟨h1, h2⟩, h3⟩ := h
    have hq := encP_eq k p.1
    by_cases hk : k = p.1
    · refine ⟨some (i, e.val), ?_, .inr ⟨0, by simp, by rw [h2]; rfl, hk.symm⟩⟩
      unfold mfind
      rw [h1, hq, decide_eq_true hk]
    · obtain ⟨f, hf, hr⟩ := mfind_kv (k := k) (i + 1) h3
      refine ⟨f, ?_, ?_⟩
      · unfold mfind
        rw [h1, hq, decide_eq_false hk]; exact hf
      · rcases hr with ⟨h4, h5⟩ | ⟨j, hj, h4, h5⟩
        · exact .inl ⟨h4, by rw [List.map_cons, List.mem_cons]; rintro (h6 | h6); exact hk h6; exact h5 h6⟩
        · exact .inr ⟨j + 1, by simpa using hj, by rw [h4]; simp; omega, by simpa using h5⟩
/-- What stands behind a key. -/
def lookP (k : P2) (l : List (P2 × P2)) : Option P2 := (l.find? fun p => decide (p.1 = k)).map Prod.snd
def putP (k v : P2) (l : List (P2 × P2)) : List (P2 × P2) := if k ∈ l.map Prod.fst then l.map fun p => if p.1 = k then (k, v) else p else l ++ [(k, v)]
def delP (k : P2) (l : List (P2 × P2)) : List (P2 × P2) := l.filter fun p => !decide (p.1 = k)
theorem lookP_none {k : P2} {l : List (P2 × P2)} (h : k ∉ l.map Prod.fst) : lookP k l = none := by
  unfold lookP
  rw [List.find?_eq_none.2]; · rfl
  intro p hp hd
  exact h (List.mem_map.2 ⟨p, hp, of_decide_eq_true hd⟩)
theorem lookP_at {k : P2} : ∀ {l : List (P2 × P2)} {j : Nat} (_ : (l.map Prod.fst).Nodup) (h : j < l.length), l[j].1 = k → lookP k l = some l[j].2
  | p :: l, 0, _, _, hk => by
    unfold lookP
    rw [List.find?_cons, decide_eq_true (by simpa using hk)]; rfl
  | p :: l, j + 1, hn, h, hk => by
    rw [List.map_cons, List.nodup_cons] at hn
    have hk' : (l[j]'(by simpa using h)).1 = k := by simpa using hk
    have hne : ¬ p.1 = k := fun e => hn.1 (by rw [e, ← hk']; exact List.mem_map.2 ⟨_, List.getElem_mem _, rfl⟩)
    have ih := lookP_at hn.2 (by simpa using h) hk'
    unfold lookP at ih ⊢
    rw [List.find?_cons, decide_eq_false hne]
    simpa using ih
theorem map_eraseIdx' {α β : Type} (f : α → β) : ∀ (l : List α) (i : Nat), (l.eraseIdx i).map f = (l.map f).eraseIdx i
  | [], _ => rfl
  | _ :: _, 0 => rfl
  | x :: l, i + 1 => by simp [map_eraseIdx' f l i]
theorem map_modify' {α β : Type} (f : α → β) (u : α → α) : ∀ (l : List α) (i : Nat), (∀ x, f (u x) = f x) → (l.modify i u).map f = l.map f
  | [], i, _ => by simp
  | x :: l, 0, h => by simp [h]
  | x :: l, i + 1, h => by simp [map_modify' f u l i h]
theorem map_modify_set {α β : Type} (f : α → β) (u : α → α) (b : β) : ∀ (l : List α) (i : Nat), (∀ x, l[i]? = some x → f (u x) = b) → (l.modify i u).map f = (l.map f).set i b
  | [], i, _ => by simp
  | x :: l, 0, h => by simp [h x rfl]
  | x :: l, i + 1, h => by simp [map_modify_set f u b l i (fun y hy => h y (by simpa using hy))]
theorem mem_modify {α : Type} (u : α → α) : ∀ (l : List α) (i : Nat) (y : α), y ∈ l.modify i u → y ∈ l ∨ ∃ x ∈ l, y = u x
  | [], i, y, h => by simp at h
  | x :: l, 0, y, h => by
    rw [List.modify_zero_cons] at h
    rcases List.mem_cons.1 h with h | h
    · exact .inr ⟨x, by simp, h⟩
    · exact .inl (by simp [h])
  | x :: l, i + 1, y, h => by
    rw [List.modify_succ_cons] at h
    rcases List.mem_cons.1 h with h | h
    · exact .inl (by simp [h])
    · rcases mem_modify u l i y h with h | ⟨z, hz, h⟩
      · exact .inl (by simp [h])
      · exact .inr ⟨z, by simp [hz], h⟩
/-- An entry is turned: its key stays. -/
theorem MapC.mod {es : Array MapEntry} {cl : Nat} {l : List (P2 × P2)} (h : MapC es cl l) {j : Nat} (hj : j < l.length) {u : MapEntry → MapEntry} {v : P2} (hb : ∀ e, (u e).born = e.born) (hk : ∀ e, e.key = encP l[j].1 → (u e).key = encP l[j].1 ∧ (u e).val = encP v) : MapC (es.modify j u) cl (l.set j (l[j].1, v)) := by
  refine ⟨?_, ?_, ?_, fun e he => ?_⟩
  · rw [Array.toList_modify, map_modify_set _ _ (encP l[j].1, encP v), h.kv, List.map_set]
    intro e he
    obtain ⟨e', h1, h2, _⟩ := h.at hj
    rw [he] at h1
    cases h1
    rw [(hk e h2).1, (hk e h2).2]
  · rw [List.map_set]
    have : (l.map Prod.fst).set j l[j].1 = l.map Prod.fst := by
      have e1 : (l.map Prod.fst)[j]'(by simpa using hj) = l[j].1 := by simp
      rw [← e1]; exact List.set_getElem_self _
    rw [this]; exact h.keys
  · rw [Array.toList_modify, map_modify' _ _ _ _ hb]; exact h.born
  · rw [Array.toList_modify] at he
    rcases mem_modify _ _ _ _ he with h1 | ⟨x, hx, rfl⟩
    · exact h.lt e h1
    · rw [hb]; exact h.lt x hx
theorem MapC.push {es : Array MapEntry} {cl : Nat} {l : List (P2 × P2)} (h : MapC es cl l) {k v : P2} (hk : k ∉ l.map Prod.fst) : MapC (es.push { key := encP k, val := encP v, born := cl }) (cl + 1) (l ++ [(k, v)]) := by
  refine ⟨by simp [h.kv], ?_, ?_, fun e he => ?_⟩
  · rw [List.map_append, List.nodup_append]
    exact ⟨h.keys, by simp, fun a ha b hb => by
      simp at hb; subst hb; rintro rfl; exact hk ha⟩
  · rw [Array.toList_push, List.map_append, List.nodup_append]
    exact ⟨h.born, by simp, fun a ha b hb => by
      simp at hb
      subst hb
      obtain ⟨e, he, rfl⟩ := List.mem_map.1 ha
      have := h.lt e he
      omega⟩
  · rw [Array.toList_push] at he
    rcases List.mem_append.1 he with h1 | h1
    · have := h.lt e h1; omega
    · rw [List.mem_singleton.1 h1]; exact Nat.lt_succ_self _
theorem MapC.erase {es : Array MapEntry} {cl : Nat} {l : List (P2 × P2)} (h : MapC es cl l) (j : Nat) : MapC (es.eraseIdxIfInBounds j) cl (l.eraseIdx j) := by
  refine ⟨?_, ?_, ?_, fun e he => ?_⟩
  · rw [Array.toList_eraseIdxIfInBounds, map_eraseIdx', map_eraseIdx', h.kv]
  · rw [map_eraseIdx']; exact h.keys.eraseIdx j
  · rw [Array.toList_eraseIdxIfInBounds, map_eraseIdx']; exact h.born.eraseIdx j
  · rw [Array.toList_eraseIdxIfInBounds] at he
    exact h.lt e ((List.eraseIdx_sublist _ _).subset he)
/-- The place of a stamp. -/
theorem stamp_at {es : List MapEntry} (hb : (es.map (·.born)).Nodup) {j : Nat} {e : MapEntry} (he : es[j]? = some e) : es.findIdx? (fun x => (x.born : Int) == (e.born : Int)) = some j := by
  have hj : j < es.length := (List.getElem?_eq_some_iff.1 he).1
  rw [List.findIdx?_eq_some_iff_getElem]
  have e0 : es[j] = e := (List.getElem?_eq_some_iff.1 he).2
  refine ⟨hj, by rw [e0]; simp, fun i hi h => ?_⟩
  have h1 : (es[i]'(by omega)).born = e.born := by
    have h0 : (((es[i]'(by omega)).born : Nat) : Int) = ((e.born : Nat) : Int) := by simpa using h
    omega
  have h2 := (List.pairwise_iff_getElem.1 hb) i j (by simp; omega) (by simpa using hj) hi
  apply h2
  simp only [List.getElem_map]
  rw [h1, e0]
theorem putP_set {k v : P2} : ∀ {l : List (P2 × P2)} {j : Nat} (_ : (l.map Prod.fst).Nodup) (h : j < l.length), l[j].1 = k → putP k v l = l.set j (k, v) := by
  intro l j hn hj hk
  unfold putP
  rw [if_pos (by rw [← hk]; exact List.mem_map.2 ⟨_, List.getElem_mem hj, rfl⟩)]
  apply List.ext_getElem?
  intro i
  rw [List.getElem?_map, List.getElem?_set]
  by_cases hi : j = i
  · subst hi
    rw [if_pos rfl, if_pos hj, List.getElem?_eq_getElem hj, Option.map_some, if_pos hk]
  · rw [if_neg hi]
    cases hg : l[i]? with
    | none => rfl
    | some p =>
      obtain ⟨hil, rfl⟩ := List.getElem?_eq_some_iff.1 hg
      rw [Option.map_some, if_neg]
      intro e
      have h2 := List.pairwise_iff_getElem.1 hn
      rcases Nat.lt_or_gt_of_ne hi with h3 | h3
      · exact h2 j i (by simpa using hj) (by simpa using hil) h3 (by simp [hk, e])
      · exact h2 i j (by simpa using hil) (by simpa using hj) h3 (by simp [hk, e])
theorem delP_erase {k : P2} : ∀ {l : List (P2 × P2)} {j : Nat} (_ : (l.map Prod.fst).Nodup) (h : j < l.length), l[j].1 = k → delP k l = l.eraseIdx j
  | p :: l, 0, hn, _, hk => by
    rw [List.map_cons, List.nodup_cons] at hn
    have hk : p.1 = k := by simpa using hk
    unfold delP
    rw [List.filter_cons, decide_eq_true hk]
    simp only [Bool.not_true, List.eraseIdx_cons_zero]
    show (if false = true then _ else _) = _
    rw [if_neg (by decide), List.filter_eq_self]
    intro q hq
    rw [decide_eq_false]; · rfl
    intro e
    exact hn.1 (by rw [hk, ← e]; exact List.mem_map.2 ⟨q, hq, rfl⟩)
  | p :: l, j + 1, hn, h, hk => by
    rw [List.map_cons, List.nodup_cons] at hn
    have hk' : (l[j]'(by simpa using h)).1 = k := by simpa using hk
    have hne : ¬ p.1 = k := fun e => hn.1 (by rw [e, ← hk']; exact List.mem_map.2 ⟨_, List.getElem_mem _, rfl⟩)
    have ih := delP_erase hn.2 (by simpa using h) hk'
    unfold delP at ih ⊢
    rw [List.filter_cons, decide_eq_false hne]
    simp only [Bool.not_false, if_true, List.eraseIdx_cons_succ, ih]
theorem delP_none {k : P2} {l : List (P2 × P2)} (h : k ∉ l.map Prod.fst) : delP k l = l := by
  unfold delP
  rw [List.filter_eq_self]
  intro p hp
  rw [decide_eq_false]; · rfl
  intro e
  exact h (by rw [← e]; exact List.mem_map.2 ⟨p, hp, rfl⟩)
/-- What is known when a key is looked for. -/
theorem MapC.look {es : Array MapEntry} {cl : Nat} {l : List (P2 × P2)} (h : MapC es cl l) (k : P2) : ∃ f, mfind (encP k) es.toList 0 = some f ∧ found (encP (0, 0)) f = encP ((lookP k l).getD (0, 0)) ∧ f.isSome = (lookP k l).isSome := by
  obtain ⟨f, hf, hr⟩ := mfind_kv (k := k) 0 h.kv
  refine ⟨f, hf, ?_⟩
  rcases hr with ⟨rfl, h2⟩ | ⟨j, hj, rfl, h2⟩
  · rw [lookP_none h2]; exact ⟨rfl, rfl⟩
  · rw [lookP_at h.keys hj h2]; exact ⟨rfl, rfl⟩
/-- A key is struck. -/
theorem MapC.del {es : Array MapEntry} {cl : Nat} {l : List (P2 × P2)} (h : MapC es cl l) (k : P2) : ∃ f, mfind (encP k) es.toList 0 = some f ∧ MapC (match f with
    | some p => es.eraseIdxIfInBounds p.1
    | none => es) cl (delP k l) := by
  obtain ⟨f, hf, hr⟩ := mfind_kv (k := k) 0 h.kv
  refine ⟨f, hf, ?_⟩
  rcases hr with ⟨rfl, h2⟩ | ⟨j, hj, rfl, h2⟩
  · rw [delP_none h2]; exact h
  · rw [delP_erase h.keys hj h2]
    simp only [Nat.zero_add]
    exact h.erase j
/-- A value is laid behind a key: in two steps. -/
theorem MapC.put {es : Array MapEntry} {cl : Nat} {l : List (P2 × P2)} (h : MapC es cl l) (k v : P2) : ∃ f, mfind (encP k) es.toList 0 = some f ∧ ∃ x3 x4 : Int, found (encP (0, 0)) f = encP (x3, x4) ∧ ∃ es1 cl1 i, mput es cl f (encP k) (encP (x3, x4)) = .map es1 cl1 ∧
    es1.findIdx? (fun e => (e.born : Int) == ((mborn es cl f : Nat) : Int)) = some i ∧ MapC (es1.modify i fun e => { e with val := encP v }) cl1 (putP k v l) := by
  obtain ⟨f, hf, hr⟩ := mfind_kv (k := k) 0 h.kv
  refine ⟨f, hf, ?_⟩
  rcases hr with ⟨rfl, h2⟩ | ⟨j, hj, rfl, h2⟩
  · have hp := h.push (v := (0, 0)) h2
    have hsz := h.size
    have hlast : (es.push { key := encP k, val := encP (0, 0), born := cl }).toList[l.length]? = some { key := encP k, val := encP (0, 0), born := cl } := by
      rw [Array.toList_push, List.getElem?_append_right (by simp; omega)]
      simp [hsz]
    have hst := stamp_at hp.born hlast
    refine ⟨0, 0, rfl, _, _, l.length, rfl, ?_, ?_⟩
    · rw [← List.findIdx?_toArray] at hst
      exact hst
    · have hm := hp.mod (j := l.length) (v := v) (u := fun e => { e with val := encP v }) (by simp) (fun _ => rfl) (fun e he => ⟨he, rfl⟩)
      have e1 : putP k v l = (l ++ [(k, ((0, 0) : P2))]).set l.length (((l ++ [(k, ((0, 0) : P2))])[l.length]'(by simp)).1, v) := by
        unfold putP
        rw [if_neg h2]
        simp
      rw [e1]; exact hm
  · have hm := h.mod hj (v := l[j].2) (u := fun e => { e with key := encP k, val := encP l[j].2 }) (fun _ => rfl) (fun e _ => ⟨by rw [h2], rfl⟩)
    have e0 : l.set j (l[j].1, l[j].2) = l := List.set_getElem_self _
    rw [e0] at hm
    obtain ⟨e, he, hek, hev⟩ := h.at hj
    have he2 : es[j]? = some e := by rw [← Array.getElem?_toList]; exact he
    obtain ⟨e', he', _, _⟩ := hm.at hj
    have hbe : e'.born = e.born := by
      rw [Array.toList_modify, List.getElem?_modify, he] at he'
      simp at he'
      rw [← he']
    have hst := stamp_at hm.born he'
    refine ⟨l[j].2.1, l[j].2.2, rfl, es.modify j fun e => { e with key := encP k, val := encP l[j].2 }, cl, j, ?_, ?_, ?_⟩
    · show Obj.map (es.modify (0 + j) _) cl = _
      rw [Nat.zero_add]
    · have hb : mborn es cl (some (0 + j, encP l[j].2)) = e'.born := by
        show ((es[0 + j]?).map (·.born)).getD 0 = _
        rw [Nat.zero_add, he2, hbe]; rfl
      rw [hb, ← hst, ← List.findIdx?_toArray]
    · have hm2 := hm.mod hj (v := v) (u := fun e => { e with val := encP v }) (fun _ => rfl) (fun e he => ⟨he, rfl⟩)
      rw [putP_set h.keys hj h2]
      rw [h2] at hm2
      exact hm2
abbrev PL := List (P2 × P2)
theorem lookP_mem {k v : P2} {l : PL} (h : (l.map Prod.fst).Nodup) : lookP k l = some v ↔ (k, v) ∈ l := by
  constructor
  · intro e
    unfold lookP at e
    cases hf : l.find? (fun p => decide (p.1 = k)) with
    | none => rw [hf] at e; cases e
    | some p =>
      rw [hf] at e
      simp only [Option.map_some, Option.some.injEq] at e
      have h1 := List.mem_of_find?_eq_some hf
      have h2 : p.1 = k := by simpa using List.find?_some hf
      rw [← h2, ← e]; exact h1
  · intro hm
    obtain ⟨j, hj, e⟩ := List.mem_iff_getElem.1 hm
    rw [lookP_at h hj (by rw [e]), e]
theorem lookP_perm {k : P2} {l m : PL} (hp : l.Perm m) (h : (l.map Prod.fst).Nodup) : lookP k l = lookP k m := by
  have h2 : (m.map Prod.fst).Nodup := (hp.map Prod.fst).nodup_iff.1 h
  apply Option.ext
  intro v
  show lookP k l = some v ↔ lookP k m = some v
  rw [lookP_mem h, lookP_mem h2]
  exact hp.mem_iff
theorem lookP_isNone {k : P2} {l : PL} : lookP k l = none ↔ k ∉ l.map Prod.fst := by
  refine ⟨fun e hm => ?_, lookP_none⟩
  obtain ⟨p, hp, rfl⟩ := List.mem_map.1 hm
  unfold lookP at e
  rw [Option.map_eq_none_iff, List.find?_eq_none] at e
  exact e p hp (by simp)
theorem delP_perm {k : P2} {l m : PL} (hp : l.Perm m) : (delP k l).Perm (delP k m) := hp.filter _
/-- The other way round. -/
def swapL (l : PL) : PL := l.map Prod.swap
theorem swapL_fst (l : PL) : (swapL l).map Prod.fst = l.map Prod.snd := by
  unfold swapL; rw [List.map_map]; rfl
theorem swapL_mem {l : PL} {a b : P2} : (a, b) ∈ swapL l ↔ (b, a) ∈ l := by
  unfold swapL
  rw [List.mem_map]
  constructor
  · rintro ⟨p, hp, e⟩
    cases p; cases e; exact hp
  · intro h; exact ⟨_, h, rfl⟩
/-- Who is struck by name goes from its spot. -/
theorem delP_swap {k s : P2} {l : PL} (h1 : (l.map Prod.fst).Nodup) (h2 : (l.map Prod.snd).Nodup) (hk : (k, s) ∈ l) : delP s (swapL l) = swapL (delP k l) := by
  have n1 := h1
  have key : ∀ p ∈ l, (p.2 = s ↔ p.1 = k) := by
    intro p hp
    constructor
    · intro e
      have := (lookP_mem (l := swapL l) (k := s) (v := p.1) (by rw [swapL_fst]; exact h2)).2 (swapL_mem.2 (by rw [← e]; exact hp))
      have h3 := (lookP_mem (l := swapL l) (k := s) (v := k) (by rw [swapL_fst]; exact h2)).2 (swapL_mem.2 hk)
      rw [this] at h3; cases h3; rfl
    · intro e
      have := (lookP_mem (l := l) (k := k) (v := p.2) h1).2 (by rw [← e]; exact hp)
      have h3 := (lookP_mem (l := l) (k := k) (v := s) h1).2 hk
      rw [this] at h3; cases h3; rfl
  unfold delP swapL
  rw [List.filter_map]
  congr 1
  apply List.filter_congr
  intro p hp
  have := key p hp
  show (!decide (p.2 = s)) = !decide (p.1 = k)
  by_cases e : p.1 = k
  · rw [decide_eq_true e, decide_eq_true (this.2 e)]
  · rw [decide_eq_false e, decide_eq_false (fun h => e (this.1 h))]
/-- Who stands on a spot. -/
def onP (s : P2) (l : PL) : Option P2 := lookP s (swapL l)
def canP (k s : P2) (l : PL) : Bool := decide (0 ≤ s.1) && decide (0 ≤ s.2) && (match onP s l with
  | some k' => decide (k' = k)
  | none => true)
def putT (k s : P2) (l : PL) : PL := if canP k s l then delP k l ++ [(k, s)] else l
/-- Each ref on one spot, on each spot one ref. -/
structure Uni (l : PL) : Prop where
  a : (l.map Prod.fst).Nodup
  b : (l.map Prod.snd).Nodup
theorem Uni.del {l : PL} (h : Uni l) (k : P2) : Uni (delP k l) := ⟨h.a.sublist ((List.filter_sublist).map _), h.b.sublist ((List.filter_sublist).map _)⟩
theorem delP_not {k : P2} {l : PL} : k ∉ (delP k l).map Prod.fst := by
  intro h
  obtain ⟨p, hp, e⟩ := List.mem_map.1 h
  unfold delP at hp
  have := (List.mem_filter.1 hp).2
  rw [decide_eq_true e] at this
  cases this
theorem canP_not {k s : P2} {l : PL} (h : Uni l) (hc : canP k s l = true) : s ∉ (delP k l).map Prod.snd := by
  intro hm
  obtain ⟨p, hp, e⟩ := List.mem_map.1 hm
  unfold delP at hp
  obtain ⟨h1, h2⟩ := List.mem_filter.1 hp
  have h3 : onP s l = some p.1 := (lookP_mem (by rw [swapL_fst]; exact h.b)).2 (swapL_mem.2 (by rw [← e]; exact h1))
  unfold canP at hc
  rw [h3] at hc
  simp only [Bool.and_eq_true, decide_eq_true_eq] at hc
  rw [decide_eq_true hc.2] at h2
  cases h2
theorem Uni.put {k s : P2} {l : PL} (h : Uni l) : Uni (putT k s l) := by
  unfold putT
  by_cases hc : canP k s l = true
  · rw [if_pos hc]
    refine ⟨?_, ?_⟩
    · rw [List.map_append, List.nodup_append]
      exact ⟨(h.del k).a, by simp, fun a ha b hb => by simp at hb; subst hb; rintro rfl; exact delP_not ha⟩
    · rw [List.map_append, List.nodup_append]
      exact ⟨(h.del k).b, by simp, fun a ha b hb => by simp at hb; subst hb; rintro rfl; exact canP_not h hc ha⟩
  · rw [if_neg hc]; exact h
theorem Uni.nil : Uni [] := ⟨List.nodup_nil, List.nodup_nil⟩
/-- A map of one's own holds this, in some order. -/
structure MapR (V : View) (r : Nat) (l : PL) : Prop where
  ex : ∃ es cl la, V.see r = some (.map es cl) ∧ MapC es cl la ∧ la.Perm l
/-- A table. -/
structure Tab (V : View) (t ra rb : Nat) (l : PL) : Prop where
  ta : t ≠ ra
  tb : t ≠ rb
  ab : ra ≠ rb
  ca : V.cell? ⟨t, 0, none⟩ = some (.map (some ra))
  cb : V.cell? ⟨t, 1, none⟩ = some (.map (some rb))
  ma : MapR V ra l
  mb : MapR V rb (swapL l)
  uni : Uni l
theorem MapR.mono {V V' : View} {r : Nat} {l : PL} (h : V.see r = V'.see r) (k : MapR V r l) : MapR V' r l := by
  obtain ⟨es, cl, la, h1, h2, h3⟩ := k.ex
  exact ⟨es, cl, la, by rw [← h]; exact h1, h2, h3⟩
theorem MapR.le {V V' : View} {r : Nat} {l : PL} (h : V.Le V') (k : MapR V r l) : MapR V' r l := by
  obtain ⟨es, cl, la, h1, h2, h3⟩ := k.ex
  exact ⟨es, cl, la, h.see _ _ h1, h2, h3⟩
theorem Tab.le {V V' : View} {t ra rb : Nat} {l : PL} (hV : V.Le V') (h : Tab V t ra rb l) : Tab V' t ra rb l :=
  ⟨h.ta, h.tb, h.ab, hV.cell h.ca, hV.cell h.cb, h.ma.le hV, h.mb.le hV, h.uni⟩
/-- All but the two maps. -/
def View.off (V : View) (ra rb : Nat) : View := (V.hide ra).hide rb
theorem View.off_see {V : View} {ra rb i : Nat} (h1 : i ≠ ra) (h2 : i ≠ rb) : (V.off ra rb).see i = V.see i := by
  unfold View.off View.hide; simp [h1, h2]
theorem View.off_le (V : View) (ra rb : Nat) : (V.off ra rb).Le V := (View.hide_le _ _).trans (View.hide_le _ _)
theorem cell_see {V V' : View} {a : Addr} (h : V.see a.block = V'.see a.block) : V.cell? a = V'.cell? a := by unfold View.cell?; rw [h]
theorem Tab.offa {V : View} {t ra rb : Nat} {l : PL} (h : Tab V t ra rb l) : (V.off ra rb).cell? ⟨t, 0, none⟩ = some (.map (some ra)) := by
  rw [cell_see (V' := V) (View.off_see h.ta h.tb)]; exact h.ca
theorem Tab.offb {V : View} {t ra rb : Nat} {l : PL} (h : Tab V t ra rb l) : (V.off ra rb).cell? ⟨t, 1, none⟩ = some (.map (some rb)) := by
  rw [cell_see (V' := V) (View.off_see h.ta h.tb)]; exact h.cb
theorem View.off_put {V V' : View} {ra rb i : Nat} {o : Obj} (h : (V.off ra rb).Le V') (hi : i = ra ∨ i = rb) : (V.off ra rb).Le (V'.put i o) :=
  ⟨Nat.le_trans h.size (Nat.le_max_left _ _), fun j o' hj => by
    have hne : j ≠ i := by
      rintro rfl
      unfold View.off View.hide at hj
      rcases hi with rfl | rfl <;> simp at hj
    rw [View.see_put_ne _ _ hne]; exact h.see j o' hj, h.out⟩
/-- What is found. -/
theorem MapR.look {V : View} {r : Nat} {l : PL} (h : MapR V r l) (k : P2) : ∃ es cl f, V.see r = some (.map es cl) ∧ mfind (encP k) es.toList 0 = some f ∧ found (encP (0, 0)) f = encP ((lookP k l).getD (0, 0)) ∧ f.isSome = (lookP k l).isSome := by
  obtain ⟨es, cl, la, h1, h2, h3⟩ := h.ex
  obtain ⟨f, h4, h5, h6⟩ := h2.look k
  rw [lookP_perm h3 h2.keys] at h5 h6
  exact ⟨es, cl, f, h1, h4, h5, h6⟩
theorem MapR.del {V : View} {r : Nat} {l : PL} (h : MapR V r l) (k : P2) {C : View → Prop} (hC : ∀ o, (∀ V', V'.see r = some o → MapR V' r (delP k l)) → C (V.put r o)) : mapD V (some r) (encP k) C := by
  obtain ⟨es, cl, la, h1, h2, h3⟩ := h.ex
  obtain ⟨f, h4, h5⟩ := h2.del k
  exact ⟨es, cl, f, h1, h4, hC _ fun V' hV => ⟨_, _, _, hV, h5, delP_perm h3⟩⟩
theorem MapR.put {V : View} {r : Nat} {l : PL} (h : MapR V r l) (k v : P2) (hk : k ∉ l.map Prod.fst) : ∃ es cl f, V.see r = some (.map es cl) ∧ mfind (encP k) es.toList 0 = some f ∧ ∃ x3 x4 : Int, found (encP (0, 0)) f = encP (x3, x4) ∧ ∃ es1 cl1 i, mput es cl f (encP k) (encP (x3, x4)) = .map es1 cl1 ∧
    es1.findIdx? (fun e => (e.born : Int) == ((mborn es cl f : Nat) : Int)) = some i ∧ ∀ V', V'.see r = some (.map (es1.modify i fun e => { e with val := encP v }) cl1) → MapR V' r (l ++ [(k, v)]) := by
  obtain ⟨es, cl, la, h1, h2, h3⟩ := h.ex
  obtain ⟨f, h4, x3, x4, h5, es1, cl1, i, h6, h7, h8⟩ := h2.put k v
  refine ⟨es, cl, f, h1, h4, x3, x4, h5, es1, cl1, i, h6, h7, fun V' hV => ⟨_, _, _, hV, h8, ?_⟩⟩
  have hk' : k ∉ la.map Prod.fst := fun hm => hk ((h3.map Prod.fst).mem_iff.1 hm)
  unfold putP
  rw [if_neg hk']
  exact h3.append_right _
theorem new_ok {V : View} : CallV Tryz.prog 49 ⟨[]⟩ V fun r V' => ∃ t ra rb, r = .pointer (some ⟨t, 0, none⟩) ∧ Tab V' t ra rb [] ∧ V.Le V' ∧ V.see t = none ∧ V.see ra = none ∧ V.see rb = none := by
  refine f49_x (_u := ()) ?_
  unfold f49_n
  intro ra hra rb hrb t ht
  have h1 : V.see ra = none := View.see_none_of_ge hra
  have hra' : ra < (V.put ra (Obj.map ⟨[]⟩ 0)).size := Nat.lt_of_lt_of_le (Nat.lt_succ_self _) (Nat.le_max_right _ _)
  have hab : ra ≠ rb := by omega
  have h2 : V.see rb = none := View.see_none_of_ge (Nat.le_trans (Nat.le_max_left _ _) hrb)
  have e1 : ((V.put ra (Obj.map ⟨[]⟩ 0)).put rb (Obj.map ⟨[]⟩ 0)).see ra = some (.map ⟨[]⟩ 0) := by
    rw [View.see_put_ne _ _ hab, View.see_put_same]
  have e2 : ((V.put ra (Obj.map ⟨[]⟩ 0)).put rb (Obj.map ⟨[]⟩ 0)).see rb = some (.map ⟨[]⟩ 0) := View.see_put_same _ _ _
  have hta : t ≠ ra := by rintro rfl; rw [e1] at ht; cases ht
  have htb : t ≠ rb := by rintro rfl; rw [e2] at ht; cases ht
  have h3 : V.see t = none := by
    rw [View.see_put_ne _ _ htb, View.see_put_ne _ _ hta] at ht; exact ht
  refine ⟨t, ra, rb, rfl, ⟨hta, htb, hab, cell_of_see (View.see_put_same _ _ _) rfl, cell_of_see (View.see_put_same _ _ _) rfl, ⟨⟨[]⟩, 0, [], ?_, MapC.nil, .refl _⟩, ⟨⟨[]⟩, 0, [], ?_, MapC.nil, .refl _⟩, Uni.nil⟩, ?_, h3, h1, h2⟩
  · rw [View.see_put_ne _ _ hta.symm]; exact e1
  · rw [View.see_put_ne _ _ htb.symm]; exact e2
  · exact ((View.put_le h1).trans (View.put_le (by rw [View.see_put_ne _ _ hab.symm]; exact h2))).trans (View.put_le ht)
theorem at_ok {V : View} {t ra rb : Nat} {l : PL} (h : Tab V t ra rb l) (k : P2) : CallV Tryz.prog 43 ⟨[.pointer (some ⟨t, 0, none⟩), encP k]⟩ V fun r V' => r = .tuple ⟨[encP ((lookP k l).getD (0, 0)), .bool (lookP k l).isSome]⟩ ∧ V' = V := by
  refine f43_x ?_
  unfold f43_n
  intro b b'
  obtain ⟨es, cl, f, h1, h2, h3, h4⟩ := h.ma.look k
  refine ⟨trivial, V, View.Le.refl _, _, rfl, some ra, by rw [Addr.add_zero]; exact h.ca, trivial, es, cl, f, h1, h2, _, _, h3, fun _ => ⟨View.Le.refl _, ?_, rfl⟩⟩
  rw [h4]; rfl
theorem len_ok {V : View} {t ra rb : Nat} {l : PL} (h : Tab V t ra rb l) : CallV Tryz.prog 40 ⟨[.pointer (some ⟨t, 0, none⟩)]⟩ V fun r V' => r = .int .i64 l.length ∧ V' = V := by
  refine f40_x ?_
  unfold f40_n
  obtain ⟨es, cl, la, h1, h2, h3⟩ := h.mb.ex
  refine ⟨_, rfl, some rb, by rw [addr0_add]; exact h.cb, ?_⟩
  refine ⟨es, cl, h1, ?_, rfl⟩
  rw [h2.size, h3.length_eq]
  unfold swapL
  rw [List.length_map]
/-- A table's maps alone are written. -/
theorem Tab.puta {V : View} {t ra rb : Nat} {l m : PL} (h : Tab V t ra rb l) {V' : View} (hV : (V.off ra rb).Le V') (ha : MapR V' ra m) (hb : MapR V' rb (swapL m)) (hu : Uni m) : Tab V' t ra rb m :=
  ⟨h.ta, h.tb, h.ab, hV.cell h.offa, hV.cell h.offb, ha, hb, hu⟩
theorem cut_ok {V : View} {t ra rb : Nat} {l : PL} (h : Tab V t ra rb l) (k : P2) : CallV Tryz.prog 38 ⟨[.pointer (some ⟨t, 0, none⟩), encP k]⟩ V fun r V' => r = .bool (lookP k l).isSome ∧ Tab V' t ra rb (delP k l) ∧ (V.off ra rb).Le V' := by
  refine f38_x ?_
  unfold f38_n
  intro b
  obtain ⟨es, cl, f, h1, h2, h3, h4⟩ := h.ma.look k
  refine ⟨trivial, V, View.Le.refl _, _, rfl, some ra, by rw [Addr.add_zero]; exact h.ca, trivial, es, cl, f, h1, h2, _, _, h3, fun _ => ⟨View.Le.refl _, ?_⟩⟩
  rw [h4]
  refine joinP_cut (fun _ V' => Tab V' t ra rb (delP k l) ∧ (V.off ra rb).Le V') ?_ fun _ V' hV => ⟨rfl, hV⟩
  refine br_intro (fun hs => ?_) (fun hs => ?_)
  · obtain ⟨s, hs⟩ := Option.isSome_iff_exists.1 hs
    have hm := (lookP_mem h.uni.a).1 hs
    refine ⟨trivial, V, View.Le.refl _, _, rfl, some ra, by rw [Addr.add_zero]; exact h.ca, trivial, h.ma.del k fun o1 g1 => ?_⟩
    rw [hs]
    have hb : MapR (V.put ra o1) rb (swapL l) := h.mb.mono (View.see_put_ne _ _ h.ab.symm).symm
    refine ⟨trivial, _, View.Le.refl _, _, rfl, some rb, ?_, trivial, hb.del s fun o2 g2 => ?_⟩
    · rw [addr0_add]
      refine (cell_see ?_).trans h.cb
      exact View.see_put_ne _ _ h.ta
    · have hV : (V.off ra rb).Le ((V.put ra o1).put rb o2) := View.off_put (View.off_put (View.off_le _ _ _) (.inl rfl)) (.inr rfl)
      refine ⟨h.puta hV ?_ ?_ (h.uni.del k), hV⟩
      · exact g1 _ (by rw [View.see_put_ne _ _ h.ab, View.see_put_same])
      · rw [← delP_swap h.uni.a h.uni.b hm]
        exact g2 _ (View.see_put_same _ _ _)
  · have hn : lookP k l = none := by simpa using hs
    refine ⟨?_, View.off_le _ _ _⟩
    rw [delP_none (lookP_isNone.1 hn)]; exact h
theorem put_ok {V : View} {t ra rb : Nat} {l : PL} (h : Tab V t ra rb l) (k s : P2) : CallV Tryz.prog 50 ⟨[.pointer (some ⟨t, 0, none⟩), encP k, encP s]⟩ V fun r V' => r = .bool (canP k s l) ∧ Tab V' t ra rb (putT k s l) ∧ (V.off ra rb).Le V' := by
  refine f50_x ?_
  unfold f50_n
  intro b b'
  refine br_intro (fun hg => ?_) (fun hg => ?_)
  · have hc : canP k s l = false := by
      unfold canP
      rcases (by simpa using hg : s.1 < 0 ∨ s.2 < 0) with h1 | h1
      · rw [decide_eq_false (by omega : ¬ 0 ≤ s.1)]; rfl
      · rw [decide_eq_false (by omega : ¬ 0 ≤ s.2), Bool.and_false]; rfl
    refine ⟨by rw [hc], ?_, View.off_le _ _ _⟩
    unfold putT
    rw [if_neg (by rw [hc]; simp)]; exact h
  · have hg : ¬ s.1 < 0 ∧ ¬ s.2 < 0 := by simpa using hg
    obtain ⟨es, cl, f, h1, h2, h3, h4⟩ := h.mb.look s
    refine ⟨trivial, V, View.Le.refl _, _, rfl, some rb, by rw [addr0_add]; exact h.cb, trivial, es, cl, f, h1, h2, _, _, h3, fun _ => ⟨View.Le.refl _, ?_⟩⟩
    rw [h4]
    refine joinP_cut (fun x V' => x.1 = !canP k s l ∧ V' = V) ?_ ?_
    · refine br_intro (fun hs => ⟨trivial, ?_, rfl⟩) (fun hs => ⟨?_, rfl⟩)
      · obtain ⟨k', hs⟩ := Option.isSome_iff_exists.1 hs
        have hs' : onP s l = some k' := hs
        unfold canP
        rw [hs', hs, decide_eq_true (by omega : 0 ≤ s.1), decide_eq_true (by omega : 0 ≤ s.2)]
        have e : decide (k' = k) = (decide (k'.1 = k.1) && (decide (k'.2 = k.2) && true)) := by
          rw [Bool.and_true, ← Bool.decide_and]
          exact decide_eq_decide.2 Prod.ext_iff
        rw [Bool.true_and, Bool.true_and]
        show (!(_)) = !(decide (k' = k))
        rw [e]; rfl
      · have hn : onP s l = none := by simpa [onP] using hs
        unfold canP
        rw [hn, decide_eq_true (by omega : 0 ≤ s.1), decide_eq_true (by omega : 0 ≤ s.2)]; rfl
    · rintro ⟨x, _⟩ V' ⟨(hx0 : x = _), rfl⟩; subst hx0
      refine br_intro (fun hx => ?_) (fun hx => ?_)
      · have hc : canP k s l = false := by simpa using hx
        refine ⟨by rw [hc], ?_, View.off_le _ _ _⟩
        unfold putT
        rw [if_neg (by rw [hc]; simp)]; exact h
      · have hc : canP k s l = true := by simpa using hx
        refine (cut_ok h k).mono fun r W ⟨hr, hT, hW⟩ => ?_
        subst hr
        refine ⟨_, rfl, trivial, W.off ra rb, View.off_le _ _ _, _, rfl, some ra, by rw [Addr.add_zero]; exact hT.offa, _, rfl, some rb, by rw [addr0_add]; exact hT.offb, trivial, ?_⟩
        obtain ⟨es, cl, f, g1, g2, x3, x4, g3, es1, cl1, i, g4, g5, g6⟩ := hT.ma.put k s delP_not
        refine ⟨ra, es, cl, f, rfl, g1, g2, x3, x4, g3, View.off_put (View.off_le _ _ _) (.inl rfl), ra, es1, cl1, i, rfl, (View.see_put_same _ _ _).trans (congrArg some g4), g5, ?_⟩
        have hL := View.off_put (o := .map (es1.modify i fun e => { e with val := encP s }) cl1) (View.off_put (V := W) (o := mput es cl f (encP k) (encP (x3, x4))) (View.off_le W ra rb) (.inl rfl)) (.inl rfl)
        refine ⟨hL, trivial, ?_⟩
        have hb := hT.mb.mono (V' := (W.put ra (mput es cl f (encP k) (encP (x3, x4)))).put ra (.map (es1.modify i fun e => { e with val := encP s }) cl1)) (by rw [View.see_put_ne _ _ h.ab.symm, View.see_put_ne _ _ h.ab.symm])
        obtain ⟨es', cl', f', g1', g2', x3', x4', g3', es1', cl1', i', g4', g5', g6'⟩ := hb.put s k (by rw [swapL_fst]; exact canP_not h.uni hc)
        refine ⟨rb, es', cl', f', rfl, g1', g2', x3', x4', g3', View.off_put hL (.inr rfl), rb, es1', cl1', i', rfl, (View.see_put_same _ _ _).trans (congrArg some g4'), g5', ?_⟩
        have hL2 := View.off_put (o := .map (es1'.modify i' fun e => { e with val := encP k }) cl1') (View.off_put (o := mput es' cl' f' (encP s) (encP (x3', x4'))) hL (.inr rfl)) (.inr rfl)
        have e1 : putT k s l = delP k l ++ [(k, s)] := by unfold putT; rw [if_pos hc]
        have e2 : swapL (delP k l ++ [(k, s)]) = swapL (delP k l) ++ [(s, k)] := by unfold swapL; rw [List.map_append]; rfl
        refine ⟨congrArg Value.bool hc.symm, ?_, ?_⟩
        · rw [e1]
          refine hT.puta hL2 ?_ ?_ (by rw [← e1]; exact h.uni.put)
          · exact g6 _ (((View.see_put_ne _ _ h.ab).trans (View.see_put_ne _ _ h.ab)).trans (View.see_put_same _ _ _))
          · rw [e2]
            exact g6' _ (View.see_put_same _ _ _)
        · refine View.Le.trans ?_ hL2
          refine ⟨hW.size, fun j o hj => ?_, hW.out⟩
          have h9 := hW.see j o hj
          have n1 : j ≠ ra := by rintro rfl; unfold View.off View.hide at hj; simp at hj
          have n2 : j ≠ rb := by rintro rfl; unfold View.off View.hide at hj; simp at hj
          rw [View.off_see n1 n2]; exact h9
structure PAd where
  p : Nat
  c : Nat
  t : Nat
  ra : Nat
  rb : Nat
  x : Sl
  f : Sl
structure Pol where
  g : Cfg
  T : PL
  fr : List Rf
  seq : Int
  opn : Int
def polL (A : PAd) (P : Pol) : List Value := [.pointer (some ⟨A.c, 0, none⟩), .int .i64 P.g.bl, .int .i64 P.g.pg, .int .i64 P.g.sp, .int .i64 P.g.da, .int .i64 P.g.we, .int .i64 0, .pointer (some ⟨A.t, 0, none⟩), .slice A.f.a A.f.n A.f.c, .int .i64 P.seq, .int .i64 P.opn, .bool false]
def PolO (A : PAd) (i : Nat) : Prop := i = A.p ∨ i = A.t ∨ i = A.ra ∨ i = A.rb ∨ ∃ a, A.f.a = some a ∧ a.block = i
structure PoolR (V : View) (O : Nat → Prop) (A : PAd) (C : Chp) (P : Pol) : Prop where
  box : V.see A.p = some (.cells ⟨polL A P⟩ 83 (0, 0))
  chip : ChipR V O A.c A.x C
  tab : Tab V A.t A.ra A.rb P.T
  frs : ∃ cs, Buf V A.f 33 2 cs ∧ repL V cs P.fr
  own : ∀ i, PolO A i → O i
  dc : ∀ i, PolO A i → ¬ ChipO A.c A.x C i
  dp : A.p ≠ A.t ∧ A.p ≠ A.ra ∧ A.p ≠ A.rb
  df : ∀ a, A.f.a = some a → a.block ≠ A.p ∧ a.block ≠ A.t ∧ a.block ≠ A.ra ∧ a.block ≠ A.rb
  seen : ∀ i, O i → V.see i ≠ none
theorem Tab.wr {V V' : View} {B : Nat → Prop} {t ra rb : Nat} {l : PL} (h : Tab V t ra rb l) (w : Wr B V V') (hB : ¬ B t ∧ ¬ B ra ∧ ¬ B rb) : Tab V' t ra rb l := by
  have ct : ∀ {j : Nat} {v : Value}, V.cell? ⟨t, j, none⟩ = some v → V'.cell? ⟨t, j, none⟩ = some v := by
    intro j v hc
    unfold View.cell? at *
    cases hs : V.see t with
    | none => rw [hs] at hc; cases hc
    | some o => rw [hs] at hc; rw [w.rest _ _ hB.1 hs]; exact hc
  obtain ⟨es, cl, la, h1, h2, h3⟩ := h.ma.ex
  obtain ⟨fs, dl, lb, k1, k2, k3⟩ := h.mb.ex
  exact ⟨h.ta, h.tb, h.ab, ct h.ca, ct h.cb, ⟨es, cl, la, w.rest _ _ hB.2.1 h1, h2, h3⟩, ⟨fs, dl, lb, w.rest _ _ hB.2.2 k1, k2, k3⟩, h.uni⟩
theorem Wr.off {V V' : View} {ra rb : Nat} (h : (V.off ra rb).Le V') : Wr (fun i => i = ra ∨ i = rb) V V' :=
  ⟨h.size, fun i o hb hi => h.see i o (by rw [View.off_see (fun e => hb (.inl e)) (fun e => hb (.inr e))]; exact hi), h.out⟩
theorem repL_rf {V W : View} : ∀ {cs : List Value} {l : List Rf}, repL V cs l → repL W cs l
  | _, [], h => h
  | _, _ :: _, ⟨a, b, e, h, k⟩ => ⟨a, b, e, h, repL_rf k⟩
theorem seen_le {O : Nat → Prop} {V V' : View} (hV : V.Le V') (hO : ∀ i, O i → V.see i ≠ none) : ∀ i, O i → V'.see i ≠ none := fun i hi => by
  cases hs : V.see i with
  | none => exact absurd hs (hO i hi)
  | some o => rw [hV.see _ _ hs]; simp
theorem PoolR.cell {V : View} {O : Nat → Prop} {A : PAd} {C : Chp} {P : Pol} (h : PoolR V O A C P) (j : Nat) {v : Value} (hj : (polL A P)[j]? = some v) : V.cell? ((⟨A.p, 0, none⟩ : Addr).add j) = some v := bx h.box j hj
theorem PoolR.le {V V' : View} {O : Nat → Prop} {A : PAd} {C : Chp} {P : Pol} (h : PoolR V O A C P) (hV : V.Le V') : PoolR V' O A C P :=
  ⟨hV.see _ _ h.box, h.chip.le hV, h.tab.le hV, let ⟨cs, a, b⟩ := h.frs; ⟨cs, a.mono hV, repL_rf b⟩, h.own, h.dc, h.dp, h.df, seen_le hV h.seen⟩
/-- Numbers of the pool, set. -/
theorem PoolR.setBox {V : View} {O : Nat → Prop} {A : PAd} {C : Chp} {P P' : Pol} (h : PoolR V O A C P) (hT : P'.T = P.T) (hf : P'.fr = P.fr) :
    PoolR (V.put A.p (.cells ⟨polL A P'⟩ 83 (0, 0))) O A C P' ∧ Wr O V (V.put A.p (.cells ⟨polL A P'⟩ 83 (0, 0))) := by
  have w : Wr (· = A.p) V (V.put A.p (.cells ⟨polL A P'⟩ 83 (0, 0))) := Wr.put (.inl rfl)
  have hop := h.own _ (.inl rfl)
  obtain ⟨cs, h1, h2⟩ := h.frs
  refine ⟨⟨View.see_put_same _ _ _, h.chip.wr w (fun i hi => by rw [hi]; exact hop) (fun i hi hc => by rw [hi] at hc; exact h.dc _ (.inl rfl) hc) (fun i hi => .inl hi) (fun i hi => h.chip.own hi), by rw [hT]; exact h.tab.wr w ⟨fun e => h.dp.1 e.symm, fun e => h.dp.2.1 e.symm, fun e => h.dp.2.2 e.symm⟩, ⟨cs, h1.see fun a o ha ho => by rw [View.see_put_ne _ _ (h.df a ha).1]; exact ho, by rw [hf]; exact repL_rf h2⟩, h.own, h.dc, h.dp, h.df, seen_wr w h.seen fun i hi => by rw [hi, View.see_put_same]; simp⟩, w.imp fun i hi => by rw [hi]; exact hop⟩
/-- The chip alone was written. -/
theorem PoolR.setChip {V V' : View} {O : Nat → Prop} {A : PAd} {C C' : Chp} {P : Pol} (h : PoolR V O A C P) (w : Wr (ChipO A.c A.x C) V V') (hc : ChipR V' O A.c A.x C') (he : ∀ i, ChipO A.c A.x C' i → ChipO A.c A.x C i) (hs : ∀ i, O i → V'.see i ≠ none) : PoolR V' O A C' P ∧ Wr O V V' := by
  obtain ⟨cs, h1, h2⟩ := h.frs
  refine ⟨⟨w.rest _ _ (h.dc _ (.inl rfl)) h.box, hc, h.tab.wr w ⟨h.dc _ (.inr (.inl rfl)), h.dc _ (.inr (.inr (.inl rfl))), h.dc _ (.inr (.inr (.inr (.inl rfl))))⟩, ⟨cs, h1.see fun a o ha ho => w.rest _ _ (h.dc _ (.inr (.inr (.inr (.inr ⟨a, ha, rfl⟩))))) ho, repL_rf h2⟩, h.own, fun i hi hc => h.dc i hi (he i hc), h.dp, h.df, hs⟩, w.imp fun i hi => h.chip.own hi⟩
/-- The table alone was written. -/
theorem PoolR.setTab {V V' : View} {O : Nat → Prop} {A : PAd} {C : Chp} {P : Pol} {T' : PL} (h : PoolR V O A C P) (hV : (V.off A.ra A.rb).Le V') (ht : Tab V' A.t A.ra A.rb T') : PoolR V' O A C { P with T := T' } ∧ Wr O V V' := by
  have w := Wr.off hV
  obtain ⟨cs, h1, h2⟩ := h.frs
  have hO : ∀ i, i = A.ra ∨ i = A.rb → O i := fun i hi => hi.elim (fun e => by rw [e]; exact h.own _ (.inr (.inr (.inl rfl)))) (fun e => by rw [e]; exact h.own _ (.inr (.inr (.inr (.inl rfl)))))
  refine ⟨⟨w.rest _ _ (fun e => e.elim h.dp.2.1 h.dp.2.2) h.box, h.chip.wr w hO (fun i hi hc => ?_) (fun i hi => .inl hi) (fun i hi => h.chip.own hi), ht, ⟨cs, h1.see fun a o ha ho => w.rest _ _ (fun e => e.elim (h.df a ha).2.2.1 (h.df a ha).2.2.2) ho, repL_rf h2⟩, h.own, h.dc, h.dp, h.df, seen_wr w h.seen fun i hi => ?_⟩, w.imp hO⟩
  · rcases hi with rfl | rfl
    · exact h.dc _ (.inr (.inr (.inl rfl))) hc
    · exact h.dc _ (.inr (.inr (.inr (.inl rfl)))) hc
  · rcases hi with rfl | rfl
    · obtain ⟨_, _, _, k, _⟩ := ht.ma.ex; rw [k]; simp
    · obtain ⟨_, _, _, k, _⟩ := ht.mb.ex; rw [k]; simp
/-- A chip on which nothing fails, on which nothing was erased. -/
structure Quiet (C : Chp) : Prop where
  down : C.down = false
  cut : C.cut = -1
  fail : C.fail = -1
  reads : 0 ≤ C.reads ∧ C.reads ≤ 1000000
  progs : 0 ≤ C.progs ∧ C.progs ≤ 1000000
  bl : ∀ q ∈ C.bl, q.2.bad = false ∧ q.2.cnt = 0 ∧ 0 ≤ q.2.nxt ∧ q.2.nxt ≤ C.pages ∧ q.2.pages.length = C.pages ∧ ∀ b ∈ q.2.pages, b.length ≤ 2000
theorem Quiet.bad0 {C : Chp} (h : Quiet C) : badN (C.bl.map Prod.snd) = 0 := by
  unfold badN
  rw [List.countP_eq_zero]
  intro b hb
  obtain ⟨q, hq, rfl⟩ := List.mem_map.1 hb
  rw [(h.bl q hq).1]; simp
theorem Quiet.sz {C : Chp} (h : Quiet C) : ∀ q ∈ C.bl, ∀ b ∈ q.2.pages, b.length ≤ 2000 := fun q hq => (h.bl q hq).2.2.2.2.2
theorem progC_own {C : Chp} {i : Nat} {b : List UInt8} {hi : i < C.bl.length} {c : Nat} {x : Sl} : ∀ k, ChipO c x (progC C i b hi) k → ChipO c x C k := by
  rintro k (h | h | ⟨q, hq, rfl⟩)
  · exact .inl h
  · exact .inr (.inl h)
  · rcases List.mem_or_eq_of_mem_set hq with hq | rfl
    · exact .inr (.inr ⟨q, hq, rfl⟩)
    · exact .inr (.inr ⟨_, List.getElem_mem hi, rfl⟩)
theorem Quiet.prog {C : Chp} (h : Quiet C) {i : Nat} {b : List UInt8} (hi : i < C.bl.length) (hn : C.bl[i].2.nxt < C.pages) (hb : b.length ≤ 2000) (hp : C.progs < 1000000) : Quiet (progC C i b hi) := by
  refine ⟨h.down, h.cut, h.fail, h.reads, ⟨by show 0 ≤ C.progs + 1; have := h.progs; omega, by show C.progs + 1 ≤ _; omega⟩, fun q hq => ?_⟩
  rcases List.mem_or_eq_of_mem_set hq with hq | rfl
  · exact h.bl q hq
  · obtain ⟨a, b', c, d, e, f⟩ := h.bl _ (List.getElem_mem hi)
    refine ⟨a, b', by show 0 ≤ C.bl[i].2.nxt + 1; omega, by show C.bl[i].2.nxt + 1 ≤ (C.pages : Int); omega, by show (C.bl[i].2.pages.set _ _).length = C.pages; rw [List.length_set]; exact e, fun y hy => ?_⟩
    rcases List.mem_or_eq_of_mem_set hy with hy | rfl
    · exact f y hy
    · exact hb
theorem meets_ok {V : View} {O : Nat → Prop} {A : PAd} {C : Chp} {P : Pol} (h : PoolR V O A C P) : CallV Tryz.prog 45 ⟨[.pointer (some ⟨A.p, 0, none⟩), .int .i64 0]⟩ V fun r V' => r = .int .i64 0 ∧ PoolR V' O A C P ∧ Wr O V V' := by
  refine f45_x ?_
  unfold f45_n
  refine ⟨_, rfl, false, h.cell 11 rfl, _, rfl, bxc h.box 11 1 (by simp [polL]), rfl, ?_⟩
  rw [bxe h.box]
  exact h.setBox rfl rfl
theorem bads_ok {V : View} {O : Nat → Prop} {A : PAd} {C : Chp} {P : Pol} (h : PoolR V O A C P) (hq : Quiet C) : CallV Tryz.prog 19 ⟨[.pointer (some ⟨A.p, 0, none⟩)]⟩ V fun r V' => r = .int .i64 0 ∧ V.Le V' := by
  refine f19_x ?_
  unfold f19_n
  refine br_intro (fun h0 => by cases h0) (fun _ => ⟨trivial, V, View.Le.refl _, _, rfl, _, h.cell 0 rfl, _, rfl, 0, h.cell 6 rfl, (blocks_ok h.chip h.seen hq.sz).mono ?_⟩)
  rintro r V1 ⟨y, rfl, hV1, hy⟩
  refine ⟨y, rfl, hV1, (blkBad_ok (hy.mono (sans_le _ _))).mono ?_⟩
  rintro r V2 ⟨rfl, rfl⟩
  rw [hq.bad0]
  exact ⟨_, rfl, hV1, inI64 (by simp) (by simp), rfl, hV1⟩
theorem over_ok {V : View} {O : Nat → Prop} {A : PAd} {C : Chp} {P : Pol} (h : PoolR V O A C P) (hq : Quiet C) (hs : 0 ≤ P.g.sp) : CallV Tryz.prog 20 ⟨[.pointer (some ⟨A.p, 0, none⟩)]⟩ V fun r V' => r = .bool false ∧ V.Le V' := by
  refine f20_x ?_
  unfold f20_n
  refine joinP_cut (fun z V' => z.1 = false ∧ V.Le V') ⟨trivial, V, View.Le.refl _, br_intro (fun _ => ?_) (fun h0 => by cases h0)⟩ (fun z V' hz => ?_)
  · have e : ((⟨A.p, 0, none⟩ : Addr).add 1).add 2 = (⟨A.p, 0, none⟩ : Addr).add 3 := Addr.add_add _ _ _
    refine ⟨_, rfl, P.g.sp, by rw [e]; exact h.cell 3 rfl, (bads_ok h hq).mono ?_⟩
    rintro r V1 ⟨rfl, hV1⟩
    refine ⟨_, rfl, hV1, ?_, hV1⟩
    exact decide_eq_false (by omega)
  · rcases z with ⟨z, ⟨⟩⟩
    obtain ⟨hz, hV⟩ := hz
    try simp only at hz
    dsimp only [unc]
    exact ⟨by rw [hz], hV⟩
theorem stops_ok {V : View} {O : Nat → Prop} {A : PAd} {C : Chp} {P : Pol} (h : PoolR V O A C P) (hq : Quiet C) (hs : 0 ≤ P.g.sp) : CallV Tryz.prog 41 ⟨[.pointer (some ⟨A.p, 0, none⟩)]⟩ V fun r V' => r = .int .i64 0 ∧ V.Le V' := by
  refine f41_x ?_
  unfold f41_n
  refine joinP_cut (fun z V' => z.1 = false ∧ V' = V) ⟨_, rfl, false, h.cell 11 rfl, br_intro (fun h0 => by cases h0) (fun _ => ⟨_, rfl, _, h.cell 0 rfl, (down_ok h.chip).mono ?_⟩)⟩ (fun z V' hz => ?_)
  · rintro r V1 ⟨rfl, rfl⟩
    exact ⟨_, rfl, hq.down, rfl⟩
  · rcases z with ⟨z, ⟨⟩⟩
    obtain ⟨hz, rfl⟩ := hz
    try simp only at hz
    dsimp only [unc]
    rw [hz]
    refine br_intro (fun h0 => by cases h0) (fun _ => (over_ok h hq hs).mono ?_)
    rintro r V1 ⟨rfl, hV1⟩
    exact ⟨_, rfl, br_intro (fun h0 => by cases h0) (fun _ => ⟨rfl, hV1⟩)⟩
theorem fits_ok {V : View} {O : Nat → Prop} {A : PAd} {C : Chp} {P : Pol} (h : PoolR V O A C P) {s : Sl} {d : List UInt8} (hs : SlR V s d) {page : Int} (hq : 0 ≤ P.seq ∧ P.seq ≤ 1099511627776) : CallV Tryz.prog 39 ⟨[.pointer (some ⟨A.p, 0, none⟩), .int .i64 page, .slice s.a s.n s.c]⟩ V fun r V' => r = .bool (mayS page (P.seq + 1) d) ∧ V.Le V' := by
  refine f39_x ?_
  unfold f39_n
  refine ⟨_, rfl, P.seq, h.cell 9 rfl, inI64 (by omega) (by omega), (sheetMay_ok hs).mono ?_⟩
  rintro r V1 ⟨rfl, hV1⟩
  exact ⟨_, rfl, rfl, hV1⟩
/-! ### clean blocks -/
theorem blocks1_ok {V : View} {b p : Nat} {i opn : Int} (h1 : V.cell? ⟨b, 0, none⟩ = some (.pointer (some ⟨p, 0, none⟩))) (h2 : V.cell? ((⟨p, 0, none⟩ : Addr).add 10) = some (.int .i64 opn)) : CallV Tryz.prog 169 ⟨[.int .i64 i, .pointer (some ⟨b, 0, none⟩)]⟩ V fun r V' => r = .bool (decide (i = opn)) ∧ V' = V := by
  refine f169_x ?_
  unfold f169_n
  exact ⟨_, h1, _, rfl, _, h2, rfl, rfl⟩
/-- Nothing is deleted where none is meant. -/
theorem indexNo_ok {V : View} {s : Sl} {l : List Int} {b p : Nat} {opn : Int} (h : SlR V s l) (hn : ∀ i ∈ l, i ≠ opn) (h1 : V.cell? ⟨b, 0, none⟩ = some (.pointer (some ⟨p, 0, none⟩))) (h2 : V.cell? ((⟨p, 0, none⟩ : Addr).add 10) = some (.int .i64 opn)) :
    CallV Tryz.prog 188 ⟨[.slice s.a s.n s.c, .func (.func 169) ⟨[]⟩ ⟨[.pointer (some ⟨b, 0, none⟩)]⟩]⟩ V fun r V' => r = .int .i64 (-1) ∧ V' = V := by
  refine f188_x (x1 := []) (y1 := [.pointer (some ⟨b, 0, none⟩)]) ?_
  unfold f188_n
  have hn' := h.n
  have hlim := h.lim
  refine loop1 (k := .int .i64) (fun (i : Int) V' => ∃ j : Nat, i = j ∧ j ≤ l.length ∧ V' = V) (fun (i : Int) _ => l.length - i.toNat) ⟨0, rfl, Nat.zero_le _, rfl⟩ ?_
  rintro (i : Int) V' ⟨j, rfl, hj, rfl⟩
  refine br_intro (fun hlt => ?_) (fun _ => ⟨rfl, rfl⟩)
  have hlt : j < l.length := by have := of_decide_eq_true hlt; omega
  obtain ⟨ad, hl, ha, hc, hi⟩ := h.int (x := (j : Int)) (by omega) (by omega)
  refine ⟨by omega, by omega, ad, ha, _, hc, (blocks1_ok h1 h2).mono ?_⟩
  rintro r V1 ⟨rfl, rfl⟩
  refine ⟨_, rfl, br_intro (fun hb => absurd (of_decide_eq_true hb) (hn _ (List.getElem_mem _))) (fun _ => ⟨inI64 (by omega) (by omega), ⟨j + 1, by omega, by omega, rfl⟩, by omega⟩)⟩
theorem deleteNo_ok {V : View} {s : Sl} {l : List Int} {b p : Nat} {opn : Int} (h : SlR V s l) (hn : ∀ i ∈ l, i ≠ opn) (h1 : V.cell? ⟨b, 0, none⟩ = some (.pointer (some ⟨p, 0, none⟩))) (h2 : V.cell? ((⟨p, 0, none⟩ : Addr).add 10) = some (.int .i64 opn)) :
    CallV Tryz.prog 168 ⟨[.slice s.a s.n s.c, .func (.func 169) ⟨[]⟩ ⟨[.pointer (some ⟨b, 0, none⟩)]⟩]⟩ V fun r V' => r = .slice s.a s.n s.c ∧ V' = V := by
  refine f168_x (x1 := []) (y1 := [.pointer (some ⟨b, 0, none⟩)]) ?_
  unfold f168_n
  refine (indexNo_ok h hn h1 h2).mono ?_
  rintro r V1 ⟨rfl, rfl⟩
  exact ⟨_, rfl, br_intro (fun _ => ⟨rfl, rfl⟩) (fun h0 => by cases h0)⟩
theorem poolBlocks_ok {V : View} {O : Nat → Prop} {A : PAd} {C : Chp} {P : Pol} (h : PoolR V O A C P) (hq : Quiet C) (ho : P.opn = -1) : CallV Tryz.prog 136 ⟨[.pointer (some ⟨A.p, 0, none⟩)]⟩ V fun r V' => ∃ y z : Sl, r = .tuple ⟨[.slice y.a y.n y.c, .slice z.a z.n z.c]⟩ ∧ V.Le V' ∧ SlR (V'.sans O) y (C.bl.map Prod.snd) ∧ SlR V' z (cleansU (C.bl.map Prod.snd) C.bl.length) := by
  refine f136_x ?_
  unfold f136_n
  intro b hb
  have hp := View.put_le (o := .cells ⟨[.pointer (some ⟨A.p, 0, none⟩)]⟩ 31) hb
  have h1 := h.le hp
  have cb : (V.put b (.cells ⟨[.pointer (some ⟨A.p, 0, none⟩)]⟩ 31)).cell? ⟨b, 0, none⟩ = some (.pointer (some ⟨A.p, 0, none⟩)) := cell_of_see (View.see_put_same _ _ _) rfl
  refine ⟨_, cb, _, rfl, _, h1.cell 0 rfl, (blocks_ok h1.chip h1.seen hq.sz).mono ?_⟩
  rintro r V1 ⟨y, rfl, hV1, hy⟩
  have hl := h.chip.len
  refine ⟨y, rfl, (blkCleans_ok (hy.mono (sans_le _ _)) (by rw [List.length_map]; exact hl)).mono ?_⟩
  rintro r V2 ⟨z, rfl, hV2, hz⟩
  rw [List.length_map] at hz
  refine ⟨z, rfl, (deleteNo_ok (opn := -1) hz (fun i hi => ?_) ((hV1.trans hV2).cell cb) ?_).mono ?_⟩
  · unfold cleansU at hi
    obtain ⟨k, _, rfl⟩ := List.mem_map.1 hi
    omega
  · have := ((h1.le hV1).le hV2).cell 10 rfl
    rw [ho] at this; exact this
  · rintro r V3 ⟨rfl, rfl⟩
    exact ⟨z, rfl, y, z, rfl, (hp.trans hV1).trans hV2, hy.sansMono hV2, hz⟩
/-! ### the coldest block -/
theorem cold1_ok {V : View} {b : Nat} {y : Sl} {l : List Blk} (h1 : V.cell? ⟨b, 0, none⟩ = some (.slice y.a y.n y.c)) (h : SlR V y l) {i j : Nat} (hi : i < l.length) (hj : j < l.length) (h0 : ∀ x ∈ l, x.cnt = 0) : CallV Tryz.prog 171 ⟨[.int .i64 i, .int .i64 j, .pointer (some ⟨b, 0, none⟩)]⟩ V fun r V' => r = .int .i64 0 ∧ V' = V := by
  refine f171_x ?_
  unfold f171_n
  have hn := h.n
  obtain ⟨ad, z, hx, ha, hc, _, _, _⟩ := h.blk (x := (i : Int)) (by omega) (by omega)
  obtain ⟨ad', z', hx', ha', hc', _, _, _⟩ := h.blk (x := (j : Int)) (by omega) (by omega)
  refine ⟨trivial, V, View.Le.refl _, y, h1, by omega, by omega, ad, ha, _, hc 2 _ rfl, y, h1, by omega, by omega, ad', ha', _, hc' 2 _ rfl, ?_⟩
  rw [h0 _ (List.getElem_mem _), h0 _ (List.getElem_mem _)]
  exact ⟨inI64 (by simp) (by simp), rfl, rfl⟩
theorem minCold_ok {V : View} {b : Nat} {y s : Sl} {l : List Blk} {c : List Int} (h1 : V.cell? ⟨b, 0, none⟩ = some (.slice y.a y.n y.c)) (h : SlR V y l) (hs : SlR V s c) (hc0 : 0 < c.length) (hc : ∀ i ∈ c, ∃ k : Nat, i = k ∧ k < l.length) (h0 : ∀ x ∈ l, x.cnt = 0) :
    CallV Tryz.prog 170 ⟨[.slice s.a s.n s.c, .func (.func 171) ⟨[]⟩ ⟨[.pointer (some ⟨b, 0, none⟩)]⟩]⟩ V fun r V' => r = .int .i64 (c[0]) ∧ V' = V := by
  refine f170_x (x1 := []) (y1 := [.pointer (some ⟨b, 0, none⟩)]) ?_
  unfold f170_n
  have hn := hs.n
  have hlim := hs.lim
  refine joinP_cut (fun _ V' => V' = V) (br_intro (fun h2 => absurd (of_decide_eq_true h2) (by omega)) (fun _ => rfl)) (fun _ V' hV => ?_)
  obtain rfl := hV
  dsimp only [unc]
  obtain ⟨ad, hl, ha, hcc, hi⟩ := hs.int (x := 0) (by omega) (by omega)
  refine ⟨by omega, by omega, ad, ha, c[0], by simpa [Addr.add_zero] using hcc, ?_⟩
  refine loop2 (k := .int .i64) (l := .int .i64) (fun (m i : Int) V1 => ∃ j : Nat, i = j ∧ 1 ≤ j ∧ j ≤ c.length ∧ m = c[0] ∧ V1 = V') (fun _ (i : Int) _ => c.length - i.toNat) ⟨1, rfl, Nat.le_refl _, hc0, rfl, rfl⟩ ?_
  rintro (m : Int) (i : Int) V1 ⟨j, rfl, hj1, hj, rfl, rfl⟩
  refine br_intro (fun hlt => ?_) (fun _ => ⟨rfl, rfl⟩)
  have hlt : j < c.length := by have := of_decide_eq_true hlt; omega
  obtain ⟨ad2, hl2, ha2, hc2, hi2⟩ := hs.int (x := (j : Int)) (by omega) (by omega)
  obtain ⟨k1, e1, k2⟩ := hc _ (List.getElem_mem hl2)
  obtain ⟨k3, e3, k4⟩ := hc _ (List.getElem_mem hc0)
  refine ⟨by omega, by omega, ad2, ha2, _, hc2, ?_⟩
  rw [e1, e3]
  refine (cold1_ok h1 h k2 k4 h0).mono ?_
  rintro r V2 ⟨rfl, rfl⟩
  refine ⟨_, rfl, joinP_cut (fun z V' => z.1 = (k3 : Int) ∧ V' = V2) (br_intro (fun h2 => by cases h2) (fun _ => ⟨rfl, rfl⟩)) (fun z V' hz => ?_)⟩
  rcases z with ⟨z, ⟨⟩⟩
  obtain ⟨hz, rfl⟩ := hz
  try simp only at hz
  dsimp only [unc]
  exact ⟨inI64 (by omega) (by omega), ⟨j + 1, by omega, by omega, by omega, by rw [hz], rfl⟩, by omega⟩
theorem coldest_ok {V : View} {y s : Sl} {l : List Blk} {c : List Int} (h : SlR V y l) (hs : SlR V s c) (hc0 : 0 < c.length) (hc : ∀ i ∈ c, ∃ k : Nat, i = k ∧ k < l.length) (h0 : ∀ x ∈ l, x.cnt = 0) :
    CallV Tryz.prog 137 ⟨[.slice y.a y.n y.c, .slice s.a s.n s.c]⟩ V fun r V' => r = .int .i64 (c[0]) ∧ V.Le V' := by
  refine f137_x ?_
  unfold f137_n
  intro b hb
  have hp := View.put_le (o := .cells ⟨[.slice y.a y.n y.c]⟩ 65) hb
  refine (minCold_ok (cell_of_see (View.see_put_same _ _ _) rfl) (h.mono hp) (hs.mono hp) hc0 hc h0).mono ?_
  rintro r V1 ⟨rfl, rfl⟩
  exact ⟨_, rfl, rfl, hp⟩
theorem cleans_at {C : Chp} {k : Nat} {i : Int} (hi : i ∈ cleansU (C.bl.map Prod.snd) k) (hk : k ≤ C.bl.length) : ∃ j : Nat, i = j ∧ ∃ h : j < C.bl.length, C.bl[j].2.nxt = 0 := by
  unfold cleansU at hi
  obtain ⟨j, hj, rfl⟩ := List.mem_map.1 hi
  rw [List.mem_filter, List.mem_range] at hj
  have hl : j < C.bl.length := by omega
  refine ⟨j, rfl, hl, ?_⟩
  have := hj.2
  rw [List.getD_eq_getElem?_getD, List.getElem?_map, List.getElem?_eq_getElem hl] at this
  simp [cleanB] at this
  exact this.2
theorem another_ok {V : View} {O : Nat → Prop} {A : PAd} {C : Chp} {P : Pol} (h : PoolR V O A C P) (hq : Quiet C) (hs : 0 ≤ P.g.sp) (ho : P.opn = -1) (hf : floorC P.g 0 < (cleansU (C.bl.map Prod.snd) C.bl.length).length) :
    CallV Tryz.prog 118 ⟨[.pointer (some ⟨A.p, 0, none⟩)]⟩ V fun r V' => r = .int .i64 0 ∧ ∃ i : Nat, (cleansU (C.bl.map Prod.snd) C.bl.length).head? = some (i : Int) ∧ PoolR V' O A C { P with opn := i } ∧ Wr O V V' := by
  refine f118_x ?_
  unfold f118_n
  refine loop0 (fun V' => V' = V) (fun _ => 0) rfl ?_
  rintro V' rfl
  refine (stops_ok h hq hs).mono ?_
  rintro r V1 ⟨rfl, hV1⟩
  refine ⟨_, rfl, br_intro (fun h0 => by cases h0) (fun _ => ?_)⟩
  have h1 := h.le hV1
  refine (poolBlocks_ok h1 hq ho).mono ?_
  rintro r V2 ⟨y, z, rfl, hV2, hy, hz⟩
  have h2 := h1.le hV2
  refine ⟨y, z, rfl, trivial, V2, View.Le.refl _, _, rfl, P.g.bl, P.g.pg, P.g.sp, P.g.da, P.g.we, ?_, (bads_ok h2 hq).mono ?_⟩
  · intro j v hj
    have : (polL A P)[1 + j]? = some v := by
      rcases j with _ | _ | _ | _ | _ | j <;> first
        | exact hj
        | (simp at hj)
    rw [Addr.add_add]
    exact h2.cell _ this
  rintro r V3 ⟨rfl, hV3⟩
  refine ⟨_, rfl, hV3, (planFloor_ok P.g 0 (by omega)).mono ?_⟩
  rintro r V4 ⟨rfl, rfl⟩
  have hzn := hz.n
  have h3 := h2.le hV3
  have hcl : 0 < (cleansU (C.bl.map Prod.snd) C.bl.length).length := by
    have : 0 ≤ floorC P.g 0 := by unfold floorC; split <;> omega
    omega
  refine ⟨_, rfl, br_intro (fun _ => ?_) (fun h0 => absurd (of_decide_eq_false h0) (by omega))⟩
  refine (coldest_ok ((hy.sansMono hV3).mono (sans_le _ _)) (hz.mono hV3) hcl (fun i hi => ?_) (fun b hb => ?_)).mono ?_
  · obtain ⟨j, e, hj, _⟩ := cleans_at hi (Nat.le_refl _)
    exact ⟨j, e, by rw [List.length_map]; exact hj⟩
  · obtain ⟨q, hq', rfl⟩ := List.mem_map.1 hb
    exact (hq.bl q hq').2.1
  rintro r V5 ⟨rfl, hV5⟩
  have h5 := h3.le hV5
  obtain ⟨j, e, hj, _⟩ := cleans_at (List.getElem_mem hcl) (Nat.le_refl _)
  refine ⟨_, rfl, _, rfl, bxc h5.box 10 1 (by simp [polL]), rfl, j, ?_, ?_⟩
  · rw [List.head?_eq_getElem?, List.getElem?_eq_getElem hcl, e]
  · rw [bxe h5.box, e]
    obtain ⟨g1, g2⟩ := h5.setBox (P' := { P with opn := (j : Int) }) rfl rfl
    exact ⟨g1, (Wr.of (((hV1.trans hV2).trans hV3).trans hV5)).trans g2⟩
/-- Can the open block be programmed yet? -/
def usable (C : Chp) (o : Int) : Prop := ∃ i : Nat, o = i ∧ ∃ h : i < C.bl.length, C.bl[i].2.nxt < C.pages
noncomputable instance (C : Chp) (o : Int) : Decidable (usable C o) := Classical.propDecidable _
/-- Where the next sheet goes. -/
def goes (C : Chp) (o : Int) (i : Nat) : Prop := (usable C o ∧ o = i) ∨ (¬ usable C o ∧ (cleansU (C.bl.map Prod.snd) C.bl.length).head? = some (i : Int))
noncomputable def wMeas (A : PAd) (C : Chp) (V : View) : Nat := match V.cell? ((⟨A.p, 0, none⟩ : Addr).add 10) with
  | some (.int .i64 o) => if usable C o then 0 else 1
  | _ => 0
theorem poolWrite_ok {V : View} {O : Nat → Prop} {A : PAd} {C : Chp} {P : Pol} (h : PoolR V O A C P) (hq : Quiet C) (hs : 0 ≤ P.g.sp) (hg : P.g.pg = C.pages) (hp0 : 1 ≤ C.pages) (ho : P.opn = -1 ∨ ∃ k : Nat, P.opn = k ∧ k < C.bl.length) (hf : ¬ usable C P.opn → floorC P.g 0 < (cleansU (C.bl.map Prod.snd) C.bl.length).length) (hpr : C.progs < 1000000)
    {r : P2} {s : Sl} {b : List UInt8} (hb : SlR (V.sans O) s b) (hb1 : 1 ≤ b.length) (hb2 : b.length ≤ 2000) :
    CallV Tryz.prog 76 ⟨[.pointer (some ⟨A.p, 0, none⟩), encP r, .slice s.a s.n s.c]⟩ V fun rr V' => rr = .int .i64 0 ∧ ∃ (i : Nat) (hi : i < C.bl.length), goes C P.opn i ∧ C.bl[i].2.nxt < C.pages ∧ PoolR V' O A (progC C i b hi) { P with opn := i, T := putT r ((i : Int), C.bl[i].2.nxt) P.T } ∧ Wr O V V' := by
  refine f76_x ?_
  unfold f76_n
  intro _
  have hlim := h.chip.lim
  have hlen := h.chip.len
  refine loop0 (fun V' => ∃ o, PoolR V' O A C { P with opn := o } ∧ Wr O V V' ∧ (o = P.opn ∨ (¬ usable C P.opn ∧ usable C o ∧ ∃ i : Nat, o = i ∧ (cleansU (C.bl.map Prod.snd) C.bl.length).head? = some (i : Int)))) (wMeas A C) ⟨P.opn, h, .refl, .inl rfl⟩ ?_
  rintro V0 ⟨o, h0, w0, ho0⟩
  have hok : o = -1 ∨ ∃ k : Nat, o = k ∧ k < C.bl.length := by
    rcases ho0 with rfl | ⟨_, ⟨i, e, hi, _⟩, _⟩
    · exact ho
    · exact .inr ⟨i, e, hi⟩
  have hne : ¬ usable C o → o = P.opn ∧ ¬ usable C P.opn := by
    intro hn
    rcases ho0 with rfl | ⟨_, hu, _⟩
    · exact ⟨rfl, hn⟩
    · exact absurd hu hn
  refine joinP_cut (fun _ V' => ∃ i : Nat, PoolR V' O A C { P with opn := (i : Int) } ∧ Wr O V V' ∧ usable C (i : Int) ∧ (¬ usable C P.opn ∧ (cleansU (C.bl.map Prod.snd) C.bl.length).head? = some (i : Int)) ∧ ¬ usable C o) ?_ (fun _ V' hz => ?_)
  rotate_left
  · obtain ⟨i, k1, k2, k3, k4, k5⟩ := hz
    dsimp only [unc]
    refine ⟨⟨(i : Int), k1, k2, .inr ⟨k4.1, k3, i, rfl, k4.2⟩⟩, ?_⟩
    unfold wMeas
    rw [k1.cell 10 rfl, h0.cell 10 rfl]
    simp only
    rw [if_pos k3, if_neg k5]; omega
  refine (stops_ok h0 hq hs).mono ?_
  rintro rr V1 ⟨rfl, hV1⟩
  have h1 := h0.le hV1
  refine ⟨_, rfl, br_intro (fun h0 => by cases h0) (fun _ => ?_)⟩
  -- is the open block full?
  refine joinP_cut (fun z V' => z.1 = decide (o ≠ -1 ∧ ¬ usable C o) ∧ V1.Le V') ⟨trivial, V1, View.Le.refl _, _, rfl, o, h1.cell 10 rfl, br_intro (fun hno => ?_) (fun hno => ⟨?_, View.Le.refl _⟩)⟩ (fun z V2 hz => ?_)
  · have hno : o ≠ -1 := by simpa using hno
    obtain ⟨k, rfl, hk⟩ := hok.resolve_left hno
    have e : ((⟨A.p, 0, none⟩ : Addr).add 1).add 1 = (⟨A.p, 0, none⟩ : Addr).add 2 := Addr.add_add _ _ _
    refine ⟨_, rfl, _, h1.cell 0 rfl, _, rfl, (k : Int), h1.cell 10 rfl, _, rfl, P.g.pg, by rw [e]; exact h1.cell 2 rfl, (block_ok h1.chip h1.seen hk hq.sz).mono ?_⟩
    rintro rr V2 ⟨y, rfl, hV2, _⟩
    obtain ⟨q1, q2, q3, q4, q5, _⟩ := hq.bl _ (List.getElem_mem hk)
    rw [hg]
    refine ⟨_, _, _, y, rfl, hV2, (blkLeft_ok C.bl[k].2 y C.pages hlim ⟨q3, by omega⟩).mono ?_⟩
    rintro rr V3 ⟨rfl, rfl⟩
    refine ⟨_, rfl, ?_, hV2⟩
    show decide ((if C.bl[k].2.bad = true ∨ (C.pages : Int) ≤ C.bl[k].2.nxt then (0 : Int) else C.pages - C.bl[k].2.nxt) = 0) = _
    by_cases e1 : C.bl[k].2.nxt < C.pages
    · rw [if_neg (by rw [q1]; simp; omega), decide_eq_false (by omega), decide_eq_false]
      rintro ⟨_, hn⟩
      exact hn ⟨k, rfl, hk, e1⟩
    · rw [if_pos (.inr (by omega)), decide_eq_true rfl]
      refine (decide_eq_true ⟨hno, ?_⟩).symm
      rintro ⟨k', e2, hk', e3⟩
      have : k = k' := by omega
      subst this
      exact e1 e3
  · have hno : o = -1 := by simpa using hno
    exact (decide_eq_false fun e => e.1 hno).symm
  rcases z with ⟨z, ⟨⟩⟩
  obtain ⟨hz, hV2⟩ := hz
  try simp only at hz
  dsimp only [unc]
  subst hz
  have h2 := h1.le hV2
  have w2 : Wr O V V2 := (w0.trans (.of hV1)).trans (.of hV2)
  clear h1 hV1 hV2 h0 V1
  refine joinP_cut (fun _ V' => ∃ o', PoolR V' O A C { P with opn := o' } ∧ Wr O V V' ∧ ((usable C o ∧ o' = o) ∨ (¬ usable C o ∧ o' = -1))) (br_intro (fun hb1 => ?_) (fun hb1 => ?_)) (fun _ V3 hz => ?_)
  · have hb1 := of_decide_eq_true hb1
    refine ⟨_, rfl, bxc h2.box 10 1 (by simp [polL]), ?_⟩
    rw [bxe h2.box]
    obtain ⟨g1, g2⟩ := h2.setBox (P' := { P with opn := (-1 : Int) }) rfl rfl
    exact ⟨-1, g1, w2.trans g2, .inr ⟨hb1.2, rfl⟩⟩
  · have hb1 := of_decide_eq_false hb1
    refine ⟨o, h2, w2, ?_⟩
    by_cases hu : usable C o
    · exact .inl ⟨hu, rfl⟩
    · exact .inr ⟨hu, Classical.byContradiction fun e => hb1 ⟨e, hu⟩⟩
  obtain ⟨o', h3, w3, ho'⟩ := hz
  dsimp only [unc]
  clear h2 w2
  refine ⟨_, rfl, o', h3.cell 10 rfl, br_intro (fun hm1 => ?_) (fun hm1 => ?_)⟩
  · -- another block is opened
    have hm1 : o' = -1 := of_decide_eq_true hm1
    have hnu : ¬ usable C o := by
      rcases ho' with ⟨hu, e⟩ | ⟨hu, _⟩
      · obtain ⟨k, e2, _⟩ := hu; omega
      · exact hu
    obtain ⟨e1, e2⟩ := hne hnu
    refine (another_ok h3 hq hs hm1 (hf e2)).mono ?_
    rintro rr V4 ⟨rfl, i, hi, h4, w4⟩
    obtain ⟨j, ej, hj, hn⟩ := cleans_at (List.mem_of_mem_head? (by rw [hi]; rfl)) (Nat.le_refl _)
    have : i = j := by omega
    subst this
    exact ⟨_, rfl, br_intro (fun h0 => by cases h0) (fun _ => ⟨i, h4, w3.trans w4, ⟨i, rfl, hj, by omega⟩, ⟨e2, hi⟩, hnu⟩)⟩
  · have hm1 : o' ≠ -1 := of_decide_eq_false hm1
    obtain ⟨hu, rfl⟩ : usable C o ∧ o' = o := ho'.resolve_right fun e => hm1 e.2
    obtain ⟨i, rfl, hi, hin⟩ := hu
    have hgo : goes C P.opn i := by
      rcases ho0 with e | ⟨e1, _, i', e2, e3⟩
      · exact .inl ⟨by rw [← e]; exact ⟨i, rfl, hi, hin⟩, e.symm⟩
      · have : i = i' := by omega
        subst this
        exact .inr ⟨e1, e3⟩
    obtain ⟨q1, q2, q3, q4, q5, _⟩ := hq.bl _ (List.getElem_mem hi)
    refine joinP_cut (fun z V' => z.1 = (i : Int) ∧ z.2.1 = C.bl[i].2.nxt ∧ V3.Le V') ⟨trivial, V3, View.Le.refl _, _, rfl, (i : Int), h3.cell 10 rfl, _, rfl, _, h3.cell 0 rfl, _, rfl, (i : Int), h3.cell 10 rfl, ?_, fun _ => ⟨View.Le.refl _, ?_⟩⟩ (fun z V4 hz => ?_)
    · refine (block_ok h3.chip h3.seen hi hq.sz).mono ?_
      rintro rr V4 ⟨y, rfl, hV4, _⟩
      exact ⟨_, _, _, y, rfl, hV4, fun _ => ⟨hV4, rfl, rfl, hV4⟩⟩
    · refine (block_ok h3.chip h3.seen hi hq.sz).mono ?_
      rintro rr V4 ⟨y, rfl, hV4, _⟩
      exact ⟨_, _, _, y, rfl, hV4, rfl, rfl, hV4⟩
    rcases z with ⟨z1, z2, ⟨⟩⟩
    obtain ⟨rfl, rfl, hV4⟩ := hz
    dsimp only [unc]
    intro _
    have h4 := h3.le hV4
    have w4 := w3.trans (.of hV4)
    refine ⟨trivial, V4, View.Le.refl _, _, rfl, _, h4.cell 0 rfl, ?_⟩
    obtain ⟨jn, hjn⟩ : ∃ jn : Nat, C.bl[i].2.nxt = jn := ⟨C.bl[i].2.nxt.toNat, by omega⟩
    have hb4 := hb.mono (w4.sans (O := O) fun _ h => h)
    have hpc := program_ok h4.chip h4.seen hi (j := jn) (by omega) hjn q1 hq.down hq.cut hq.fail (inI64 (by have := hq.progs; omega) (by have := hq.progs; omega)) hb4 hb1 hb2
    rw [← hjn] at hpc
    refine hpc.mono ?_
    rintro rr V5 ⟨rfl, c5, w5, s5⟩
    obtain ⟨h5, w5'⟩ := h4.setChip w5 c5 progC_own s5
    refine ⟨_, rfl, br_intro (fun _ => ⟨trivial, V5, View.Le.refl _, _, rfl, _, h5.cell 7 rfl, (put_ok h5.tab r ((i : Int), C.bl[i].2.nxt)).mono ?_⟩) (fun h0 => by cases h0)⟩
    rintro rr V6 ⟨rfl, t6, l6⟩
    obtain ⟨h6, w6⟩ := h5.setTab l6 t6
    exact ⟨_, rfl, rfl, i, hi, hgo, hin, h6, (w4.trans w5').trans w6⟩
theorem begins_ok {V : View} {O : Nat → Prop} {A : PAd} {C : Chp} {P : Pol} (h : PoolR V O A C P) (hq : Quiet C) (hs : 0 ≤ P.g.sp) (hg : P.g.pg = C.pages) (hp0 : 1 ≤ C.pages) (ho : P.opn = -1 ∨ ∃ k : Nat, P.opn = k ∧ k < C.bl.length) (hf : ¬ usable C P.opn → floorC P.g 0 < (cleansU (C.bl.map Prod.snd) C.bl.length).length) (hpr : C.progs < 1000000) (hsq : 0 ≤ P.seq)
    {page : Int} {s : Sl} {d : List UInt8} (hd : SlR (V.sans O) s d) (hm : MayS page (P.seq + 1) d) :
    CallV Tryz.prog 42 ⟨[.pointer (some ⟨A.p, 0, none⟩), .int .i64 page, .slice s.a s.n s.c]⟩ V fun rr V' => rr = .tuple ⟨[encP (page, P.seq + 1), .int .i64 0]⟩ ∧ ∃ (i : Nat) (hi : i < C.bl.length), goes C P.opn i ∧ C.bl[i].2.nxt < C.pages ∧ PoolR V' O A (progC C i (laidS page (P.seq + 1) d) hi) { P with seq := P.seq + 1, opn := i, T := putT (page, P.seq + 1) ((i : Int), C.bl[i].2.nxt) P.T } ∧ Wr O V V' := by
  refine f42_x ?_
  unfold f42_n
  intro _
  have hq1 := hm.q1
  have hi : inI .i64 (P.seq + 1) := inI64 (by omega) (by omega)
  refine ⟨_, rfl, P.seq, h.cell 9 rfl, hi, ?_⟩
  refine (CallV.apart h.seen ((sheetBytes_ok hd hm).mono fun r U' ⟨y, k1, k2, k3⟩ => ⟨(⟨y, k1, k2⟩ : ∃ y : Sl, r = .tuple ⟨[.slice y.a y.n y.c, .int .i64 0]⟩ ∧ SlR U' y (laidS page (P.seq + 1) d)), k3⟩)).mono ?_
  rintro rr V1 ⟨U, ⟨y, rfl, hy⟩, _, hU2, hV1⟩
  have h1 := h.le hV1
  refine ⟨y, _, rfl, br_intro (fun h0 => by cases h0) (fun _ => ⟨_, rfl, P.seq, h1.cell 9 rfl, hi, _, rfl, bxc h1.box 9 1 (by simp [polL]), ?_⟩)⟩
  rw [bxe h1.box]
  obtain ⟨h2, w2⟩ := h1.setBox (P' := { P with seq := P.seq + 1 }) rfl rfl
  have e : putL (polL A P) 9 [.int .i64 (P.seq + 1)] = polL A { P with seq := P.seq + 1 } := rfl
  rw [e]
  have hy2 := (hy.mono hU2).mono (w2.sans (O := O) fun _ h => h)
  generalize V1.put A.p (.cells ⟨polL A { P with seq := P.seq + 1 }⟩ 83 (0, 0)) = V2 at *
  refine ⟨_, rfl, P.seq + 1, h2.cell 9 rfl, fun _ => ⟨trivial, V2.sans O, sans_le _ _, ?_⟩⟩
  refine (poolWrite_ok h2 hq hs hg hp0 ho hf hpr (r := (page, P.seq + 1)) hy2 (laidS_ne _ _ _) hm.ll).mono ?_
  rintro rr V3 ⟨rfl, i, hi', hgo, hn, h3, w3⟩
  refine ⟨_, rfl, (w3.sans (O := O) fun _ h => h).trans (sans_le _ _), (meets_ok h3).mono ?_⟩
  rintro rr V4 ⟨rfl, h4, w4⟩
  exact ⟨_, rfl, ((w3.trans w4).sans (O := O) fun _ h => h).trans (sans_le _ _), rfl, i, hi', hgo, hn, h4, (((Wr.of hV1).trans w2).trans w3).trans w4⟩
/-- O, with row s in the place of row f. -/
def swapO (O : Nat → Prop) (f s : Sl) (i : Nat) : Prop := (O i ∧ ¬ ∃ a, f.a = some a ∧ a.block = i) ∨ ∃ a, s.a = some a ∧ a.block = i
theorem PoolR.setFr {V V4 : View} {O : Nat → Prop} {A : PAd} {C : Chp} {P : Pol} {s : Sl} {cs : List Value} {fr : List Rf} (h : PoolR V O A C P) (hb : Buf V4 s 33 2 cs) (hr : repL V4 cs fr) (hle : (V.minus A.f).Le (V4.minus s)) :
    V4.see A.p = some (.cells ⟨polL A P⟩ 83 (0, 0)) ∧ PoolR (V4.put A.p (.cells ⟨polL { A with f := s } P⟩ 83 (0, 0))) (swapO O A.f s) { A with f := s } C { P with fr := fr } ∧ Wr O V (V4.put A.p (.cells ⟨polL { A with f := s } P⟩ 83 (0, 0))) ∧ (∀ i, swapO O A.f s i → O i ∨ V.see i = none) := by
  -- what is seen beside the old row is seen beside the new one
  have keep : ∀ {i : Nat} {o : Obj}, (∀ a, A.f.a = some a → a.block ≠ i) → V.see i = some o → V4.see i = some o ∧ ∀ a, s.a = some a → a.block ≠ i := by
    intro i o hi ho
    have h2 := hle.see i o (by rw [minus_see' hi]; exact ho)
    have h3 := minus_ne' h2
    rw [minus_see' h3] at h2
    exact ⟨h2, h3⟩
  have hO : ∀ i, swapO O A.f s i → O i ∨ V.see i = none := by
    rintro i (⟨hi, _⟩ | ⟨a, ha, rfl⟩)
    · exact .inl hi
    · by_cases hf : ∀ b, A.f.a = some b → b.block ≠ a.block
      · cases hs : V.see a.block with
        | none => exact .inr rfl
        | some o => exact absurd rfl ((keep hf hs).2 a ha)
      · refine .inl ?_
        have : ∃ b, A.f.a = some b ∧ b.block = a.block := Classical.byContradiction fun e => hf fun b hb hb' => e ⟨b, hb, hb'⟩
        exact h.own _ (.inr (.inr (.inr (.inr this))))
  have wf : Wr (fun i => ∃ a, A.f.a = some a ∧ a.block = i) V V4 := Wr.minus (hle.trans (View.minus_le _ _))
  have fO : ∀ i, (∃ a, A.f.a = some a ∧ a.block = i) → O i := fun i hi => h.own _ (.inr (.inr (.inr (.inr hi))))
  have hfp : ∀ a, A.f.a = some a → a.block ≠ A.p := fun a ha => (h.df a ha).1
  obtain ⟨b4, sp⟩ := keep hfp h.box
  have w5 : Wr (· = A.p) V4 (V4.put A.p (.cells ⟨polL { A with f := s } P⟩ 83 (0, 0))) := Wr.put (.inl rfl)
  have hop := h.own _ (.inl rfl)
  have inO' : ∀ i, O i → (¬ ∃ a, A.f.a = some a ∧ a.block = i) → swapO O A.f s i := fun i a b => .inl ⟨a, b⟩
  have nf : ∀ i, ChipO A.c A.x C i → ¬ ∃ a, A.f.a = some a ∧ a.block = i := fun i hc hi => h.dc i (.inr (.inr (.inr (.inr hi)))) hc
  have wt : Wr (fun i => (∃ a, A.f.a = some a ∧ a.block = i) ∨ i = A.p) V (V4.put A.p (.cells ⟨polL { A with f := s } P⟩ 83 (0, 0))) := (wf.imp fun i hi => .inl hi).trans (w5.imp fun i hi => .inr hi)
  have tO : ∀ i, ((∃ a, A.f.a = some a ∧ a.block = i) ∨ i = A.p) → O i := fun i hi => hi.elim (fO i) (fun e => by rw [e]; exact hop)
  have tdf : ∀ i, (i = A.t ∨ i = A.ra ∨ i = A.rb) → ¬ ((∃ a, A.f.a = some a ∧ a.block = i) ∨ i = A.p) := by
    rintro i hi (⟨a, ha, e⟩ | e)
    · obtain ⟨_, k1, k2, k3⟩ := h.df a ha
      rcases hi with rfl | rfl | rfl
      · exact k1 e
      · exact k2 e
      · exact k3 e
    · subst e
      rcases hi with e | e | e
      · exact h.dp.1 e
      · exact h.dp.2.1 e
      · exact h.dp.2.2 e
  have nft : ∀ i, (i = A.p ∨ i = A.t ∨ i = A.ra ∨ i = A.rb) → ¬ ∃ a, A.f.a = some a ∧ a.block = i := by
    rintro i hi ⟨a, ha, e⟩
    obtain ⟨k0, k1, k2, k3⟩ := h.df a ha
    rcases hi with rfl | rfl | rfl | rfl
    · exact k0 e
    · exact k1 e
    · exact k2 e
    · exact k3 e
  have seen4 : ∀ i, O i → (¬ ∃ a, A.f.a = some a ∧ a.block = i) → ∃ o, V4.see i = some o ∧ ∀ a, s.a = some a → a.block ≠ i := fun i hi hn => by
    cases hs : V.see i with
    | none => exact absurd hs (h.seen i hi)
    | some o =>
      obtain ⟨k1, k2⟩ := keep (fun a ha e => hn ⟨a, ha, e⟩) hs
      exact ⟨o, k1, k2⟩
  have ob : ∀ i, (i = A.p ∨ i = A.t ∨ i = A.ra ∨ i = A.rb) → O i := fun i hi => h.own i (by
    rcases hi with e | e | e | e
    · exact .inl e
    · exact .inr (.inl e)
    · exact .inr (.inr (.inl e))
    · exact .inr (.inr (.inr (.inl e))))
  refine ⟨b4, ⟨View.see_put_same _ _ _, h.chip.wr wt tO (fun i hi hc => ?_) hO (fun i hi => inO' i (h.chip.own hi) (nf i hi)), h.tab.wr wt ⟨tdf _ (.inl rfl), tdf _ (.inr (.inl rfl)), tdf _ (.inr (.inr rfl))⟩, ⟨cs, hb.see fun a o ha ho => by rw [View.see_put_ne _ _ (sp a ha)]; exact ho, repL_rf hr⟩, ?_, ?_, h.dp, fun a ha => ⟨sp a ha, ?_, ?_, ?_⟩, ?_⟩, wt.imp tO, hO⟩
  · rcases hi with hi | hi
    · exact nf i hc hi
    · exact h.dc i (.inl hi) hc
  · rintro i (e | e | e | e | e)
    · exact inO' i (ob i (.inl e)) (nft i (.inl e))
    · exact inO' i (ob i (.inr (.inl e))) (nft i (.inr (.inl e)))
    · exact inO' i (ob i (.inr (.inr (.inl e)))) (nft i (.inr (.inr (.inl e))))
    · exact inO' i (ob i (.inr (.inr (.inr e)))) (nft i (.inr (.inr (.inr e))))
    · exact .inr e
  · rintro i (e | e | e | e | ⟨a, ha, e⟩) hc
    · exact h.dc i (.inl e) hc
    · exact h.dc i (.inr (.inl e)) hc
    · exact h.dc i (.inr (.inr (.inl e))) hc
    · exact h.dc i (.inr (.inr (.inr (.inl e)))) hc
    · obtain ⟨o, _, k⟩ := seen4 i (h.chip.own hc) (nf i hc)
      exact k a ha e
  · obtain ⟨o, _, k⟩ := seen4 A.t (ob _ (.inr (.inl rfl))) (nft _ (.inr (.inl rfl))); exact k a ha
  · obtain ⟨o, _, k⟩ := seen4 A.ra (ob _ (.inr (.inr (.inl rfl)))) (nft _ (.inr (.inr (.inl rfl)))); exact k a ha
  · obtain ⟨o, _, k⟩ := seen4 A.rb (ob _ (.inr (.inr (.inr rfl)))) (nft _ (.inr (.inr (.inr rfl)))); exact k a ha
  · intro i hi
    by_cases e : i = A.p
    · rw [e, View.see_put_same]; simp
    · rw [View.see_put_ne _ _ e]
      rcases hi with ⟨hi, hn⟩ | ⟨a, ha, rfl⟩
      · obtain ⟨o, k, _⟩ := seen4 i hi hn; rw [k]; simp
      · rcases hb.own with ⟨h1, _⟩ | ⟨r, all, h1, h2, _⟩
        · rw [h1] at ha; cases ha
        · rw [h1] at ha; cases ha; rw [h2]; simp
theorem polPut_ok {V : View} {O : Nat → Prop} {A : PAd} {C : Chp} {P : Pol} (h : PoolR V O A C P) (hq : Quiet C) (hs : 0 ≤ P.g.sp) (hg : P.g.pg = C.pages) (hp0 : 1 ≤ C.pages) (ho : P.opn = -1 ∨ ∃ k : Nat, P.opn = k ∧ k < C.bl.length) (hf : ¬ usable C P.opn → floorC P.g 0 < (cleansU (C.bl.map Prod.snd) C.bl.length).length) (hpr : C.progs < 1000000) (hsq : 0 ≤ P.seq ∧ P.seq ≤ 1000000)
    (hda : 0 ≤ P.g.da ∧ P.g.da ≤ 100) (hT : P.T.length < P.g.da + 6) (hfr : P.fr.length ≤ 1000) {page : Int} {s : Sl} {d : List UInt8} (hd : SlR (V.sans O) s d) (hm : MayS page (P.seq + 1) d) (hpg : page ≠ 0) :
    CallV Tryz.prog 12 ⟨[.pointer (some ⟨A.p, 0, none⟩), .int .i64 page, .slice s.a s.n s.c]⟩ V fun rr V' => rr = .tuple ⟨[encP (page, P.seq + 1), .int .i64 0]⟩ ∧ ∃ (i : Nat) (hi : i < C.bl.length) (f : Sl), goes C P.opn i ∧ C.bl[i].2.nxt < C.pages ∧ PoolR V' (swapO O A.f f) { A with f := f } (progC C i (laidS page (P.seq + 1) d) hi) { P with seq := P.seq + 1, opn := i, T := putT (page, P.seq + 1) ((i : Int), C.bl[i].2.nxt) P.T, fr := P.fr ++ [⟨page, P.seq + 1⟩] } ∧ Wr O V V' ∧ (∀ i, swapO O A.f f i → O i ∨ V.see i = none) := by
  refine f12_x ?_
  unfold f12_n
  intro _
  refine joinP_cut (fun z V' => z.1 = false ∧ V.Le V') (br_intro (fun h0 => ?_) (fun _ => ?_)) (fun z V1 hz => ?_)
  · exact absurd (of_decide_eq_true (show decide (page = 0) = true from h0)) hpg
  · refine (fits_ok h (hd.mono (sans_le _ _)) (by omega)).mono ?_
    rintro rr V1 ⟨rfl, hV1⟩
    refine ⟨_, rfl, ?_, hV1⟩
    rw [mayS_iff.2 hm]; rfl
  rcases z with ⟨z, ⟨⟩⟩
  obtain ⟨hz, hV1⟩ := hz
  try simp only at hz
  dsimp only [unc]
  subst hz
  have h1 := h.le hV1
  have e : ((⟨A.p, 0, none⟩ : Addr).add 1).add 3 = (⟨A.p, 0, none⟩ : Addr).add 4 := Addr.add_add _ _ _
  refine br_intro (fun h0 => by cases h0) (fun _ => ⟨trivial, V1, View.Le.refl _, _, rfl, _, h1.cell 7 rfl, _, rfl, P.g.da, by rw [e]; exact h1.cell 4 rfl, inI64 (by omega) (by omega), inI64 (by omega) (by omega), (len_ok h1.tab).mono ?_⟩)
  rintro rr V2 ⟨rfl, rfl⟩
  refine ⟨_, rfl, View.Le.refl _, br_intro (fun h0 => absurd (of_decide_eq_true h0) (by omega)) (fun _ => (stops_ok h1 hq hs).mono ?_)⟩
  rintro rr V3 ⟨rfl, hV3⟩
  have h3 := h1.le hV3
  refine ⟨_, rfl, br_intro (fun h0 => by cases h0) (fun _ => ?_)⟩
  refine (begins_ok h3 hq hs hg hp0 ho hf hpr hsq.1 (hd.mono (sans_mono_le (hV1.trans hV3))) hm).mono ?_
  rintro rr V4 ⟨rfl, i, hi, hgo, hn, h4, w4⟩
  refine ⟨_, _, _, rfl, fun _ => br_intro (fun h0 => by cases h0) (fun _ => ?_)⟩
  obtain ⟨cs, hb, hr⟩ := h4.frs
  have hfn := hb.n_eq (α := Rf) hr
  have fp : ∀ a, A.f.a = some a → a.block ≠ A.p := fun a ha => (h.df a ha).1
  refine ⟨trivial, V4.minus A.f, View.minus_le _ _, _, rfl, A.f, ?_, fun r hr1 => ⟨(View.minus_le _ _).trans (View.put_le (View.see_none_of_ge hr1)), ?_⟩⟩
  · exact bx (j := 8) (show (V4.minus A.f).see A.p = some _ by rw [minus_see' fp]; exact h4.box) rfl
  have hfr2 : V4.see r = none := View.see_none_of_ge hr1
  refine apV_buf rfl (hb.put hfr2) (src := [.int .i64 page, .int .i64 (P.seq + 1)]) (m := 1) ⟨rfl, rowAt_new (View.see_put_same _ _ _) rfl⟩ rfl rfl (by show (A.f.n + 1) * 16 ≤ _; have : P.fr.length ≤ 1000 := hfr; have : A.f.n = P.fr.length := hfn; omega) (by show A.f.n + 1 ≤ _; have : A.f.n = P.fr.length := hfn; omega) fun f V5 hb5 _ hle5 => ?_
  have hle : (V4.minus A.f).Le (V5.minus f) := (put_minus_le hfr2).trans hle5
  have hr5 : repL V5 (cs ++ [.int .i64 page, .int .i64 (P.seq + 1)]) (P.fr ++ [⟨page, P.seq + 1⟩]) := (repL_rf hr).snoc ⟨rfl, inI64 (show _ ≤ page by have := hm.p0; omega) (show page ≤ _ by have := hm.p1; omega), inI64 (show _ ≤ P.seq + 1 by omega) (show P.seq + 1 ≤ _ by omega)⟩
  obtain ⟨k1, k2, k3, k4⟩ := h4.setFr hb5 hr5 hle
  refine ⟨_, rfl, bxc k1 8 1 (by simp [polL]), ?_⟩
  rw [bxe k1]
  refine ⟨rfl, i, hi, f, hgo, hn, k2, ((Wr.of (hV1.trans hV3)).trans w4).trans k3, fun j hj => ?_⟩
  rcases k4 j hj with h | h
  · exact .inl h
  · refine .inr ?_
    cases hs : V.see j with
    | none => rfl
    | some o =>
      by_cases hO : O j
      · exact absurd h (h4.seen j hO)
      · have := w4.rest j o hO ((hV1.trans hV3).see _ _ hs)
        rw [h] at this; cases this
def cmpI (a b : Int) : Int := if a < b then -1 else if b < a then 1 else 0
theorem cmpI_in (a b : Int) : inI .i64 (cmpI a b) := by
  unfold cmpI
  split
  · exact inI64 (by omega) (by omega)
  · split
    · exact inI64 (by omega) (by omega)
    · exact inI64 (by omega) (by omega)
/-- The order, by block and page. -/
def ordP (p q : P2 × P2) : Int := if cmpI p.2.1 q.2.1 = 0 then cmpI p.2.2 q.2.2 else cmpI p.2.1 q.2.1
def celP (p : P2 × P2) : List Value := [.int .i64 p.1.1, .int .i64 p.1.2, .int .i64 p.2.1, .int .i64 p.2.2]
def encF (p : P2 × P2) : Value := .agg ⟨celP p⟩
theorem isNaN_ok [DrK] {a : Int} {V : View} : CallV Tryz.prog 99 ⟨[.int .i64 a]⟩ V fun r V' => r = .bool false ∧ V' = V := by
  refine f99_x ?_
  unfold f99_n
  exact ⟨by simp, rfl⟩
theorem compareI_ok [DrK] {a b : Int} {V : View} : CallV Tryz.prog 60 ⟨[.int .i64 a, .int .i64 b]⟩ V fun r V' => r = .int .i64 (cmpI a b) ∧ V' = V := by
  refine f60_x ?_
  unfold f60_n
  refine isNaN_ok.mono ?_
  rintro r V' ⟨rfl, rfl⟩
  refine ⟨_, rfl, isNaN_ok.mono ?_⟩
  rintro r V' ⟨rfl, rfl⟩
  refine ⟨_, rfl, ?_⟩
  rw [br_false, br_false]
  unfold cmpI
  refine br_intro (fun h => ⟨?_, rfl⟩) (fun h => br_intro (fun h' => ⟨?_, rfl⟩) (fun h' => ⟨?_, rfl⟩))
  · rw [if_pos (by simpa using h)]
  · rw [if_neg (by simpa using h), if_pos (by simpa using h')]
  · rw [if_neg (by simpa using h), if_neg (by simpa using h')]
theorem orI_ok [DrK] {a b : Int} {s : Sl} {V : View} (h : SlR V s [a, b]) : CallV Tryz.prog 59 ⟨[.slice s.a s.n s.c]⟩ V fun r V' => r = .int .i64 (if a = 0 then b else a) ∧ V' = V := by
  refine f59_x ?_
  unfold f59_n
  have hn := h.n
  have hn : s.n = 2 := hn
  refine loop1 (k := .int .i64) (fun (x : Int) V' => V' = V ∧ 0 ≤ x ∧ x ≤ 2 ∧ (1 ≤ x → a = 0) ∧ (2 ≤ x → b = 0)) (fun (x : Int) _ => 2 - x.toNat) ⟨rfl, by omega, by omega, by omega, by omega⟩ ?_
  rintro (x : Int) V' ⟨rfl, h0, h1, h2, h3⟩
  refine br_intro (fun hlt => ?_) (fun hge => ?_)
  · have hlt : x < s.n := by simpa using hlt
    obtain ⟨ad, hx, ha, hc, _⟩ := h.int h0 hlt
    refine ⟨h0, hlt, ad, ha, _, hc, br_intro (fun hb => ⟨?_, rfl⟩) (fun hb => ⟨inI64 (by omega) (by omega), ⟨rfl, by omega, by omega, ?_, ?_⟩, by omega⟩)⟩
    · have hb : ¬ [a, b][x.toNat] = 0 := by simpa using hb
      rcases (by omega : x = 0 ∨ x = 1) with rfl | rfl
      · rw [if_neg (show ¬ a = 0 from hb)]; rfl
      · rw [if_pos (h2 (by omega))]; rfl
    · have hb : [a, b][x.toNat] = 0 := by simpa using hb
      intro h4
      rcases (by omega : x = 0 ∨ x = 1) with rfl | rfl
      · exact hb
      · exact h2 (by omega)
    · have hb : [a, b][x.toNat] = 0 := by simpa using hb
      intro h4
      rcases (by omega : x = 0 ∨ x = 1) with rfl | rfl
      · omega
      · exact hb
  · have hge : ¬ x < s.n := by simpa using hge
    refine ⟨?_, rfl⟩
    rw [if_pos (h2 (by omega)), h3 (by omega)]
theorem order_ok [DrK] (p q : P2 × P2) {V : View} : CallV Tryz.prog 94 ⟨[encF p, encF q]⟩ V fun r V' => r = .int .i64 (ordP p q) ∧ V.Le V' := by
  refine f94_x ?_
  unfold f94_n
  intro b b'
  refine ⟨trivial, V, View.Le.refl _, compareI_ok.mono ?_⟩
  rintro r V' ⟨rfl, rfl⟩
  refine ⟨_, rfl, View.Le.refl _, compareI_ok.mono ?_⟩
  rintro r V' ⟨rfl, rfl⟩
  refine ⟨_, rfl, fun r hr => ?_⟩
  have hsl : SlR (V'.put r (.cells ⟨putL (putL [.int .i64 0, .int .i64 0] 0 [.int .i64 (cmpI p.2.1 q.2.1)]) 1 [.int .i64 (cmpI p.2.2 q.2.2)]⟩ 3)) ⟨some ⟨r, 0, none⟩, 2, 2⟩ [cmpI p.2.1 q.2.1, cmpI p.2.2 q.2.2] := by
    refine ⟨rfl, Nat.le_refl _, (by decide : 2 ≤ 9223372036854775807), fun i hi => ⟨_, [.int .i64 [cmpI p.2.1 q.2.1, cmpI p.2.2 q.2.2][i]], rfl, ?_, ?_⟩⟩
    · have : i = 0 ∨ i = 1 := by simp at hi; omega
      rcases this with rfl | rfl
      · refine cellsAt_one.2 ?_
        rw [addr0_add]
        exact cell_of_see (View.see_put_same _ _ _) rfl
      · refine cellsAt_one.2 ?_
        rw [addr0_add]
        exact cell_of_see (View.see_put_same _ _ _) rfl
    · exact ⟨rfl, by
        have : i = 0 ∨ i = 1 := by simp at hi; omega
        rcases this with rfl | rfl
        · exact cmpI_in _ _
        · exact cmpI_in _ _⟩
  refine (orI_ok hsl).mono ?_
  rintro r' V'' ⟨rfl, rfl⟩
  exact ⟨_, rfl, rfl, View.put_le (View.see_none_of_ge hr)⟩
end Go.Proofs.YtgkmcnafkhdlnaaGreat
/-
  DERIVED: THE SHELF's CONTRACTS AT THIS DUMP, IN PLAIN WORDS (tools/lay-plain.mjs out of 'TryzShelf.lean', which tools/lay-shelf.mjs wrote): THE SAME DECLARATIONS UNDER THE SAME NAMES: 'import', 'namespace', 'open', 'def', 'theorem' AND NOTHING ELSE: no command of the shelf's: FOR A HAND-IN. Each laying: the table of numbers ('.._ren') and one theorem, a field a fact of the dump's own or the kernel's comparison; each contract: ONE APPLICATION.
-/
namespace Go.Proofs
open Go.Shelf
def Tryz.sortF_ren : Go.Shelf.Ren := ⟨fun | 6 => 93 | 15 => 125 | 14 => 124 | 28 => 153 | 29 => 154 | 20 => 145 | 21 => 146 | 22 => 147 | 23 => 148 | 24 => 149 | 25 => 150 | 26 => 151 | 27 => 152 | 46 => 178 | 47 => 179 | 48 => 180 | 49 => 181 | 50 => 182 | 57 => 195 | n => n, fun | 22 => 42 | 24 => 52 | 25 => 151 | 3 => 3 | 39 => 177 | 0 => 0 | 53 => 204 | 55 => 61 | 4 => 4 | 46 => 197 | 45 => 196 | 50 => 201 | 5 => 5 | 9 => 9 | 66 => 222 | 70 => 193 | 76 => 235 | 77 => 172 | n => n, fun | n => n⟩
theorem Tryz.sortF : Go.Proofs.SlLaysF0.n6 Tryz.prog Tryz.sortF_ren := {
  mixed := by kernel_rfl
  f6 := ⟨Tryz.f93.name, by decide, Tryz.func93.trans (congrArg some (by kernel_rfl))⟩
  f14 := ⟨Tryz.f124.name, by decide, Tryz.func124.trans (congrArg some (by kernel_rfl))⟩
  f15 := Tryz.func125.trans (congrArg some (by kernel_rfl))
  f20 := ⟨Tryz.f145.name, by decide, Tryz.func145.trans (congrArg some (by kernel_rfl))⟩
  f21 := ⟨Tryz.f146.name, by decide, Tryz.func146.trans (congrArg some (by kernel_rfl))⟩
  f22 := ⟨Tryz.f147.name, by decide, Tryz.func147.trans (congrArg some (by kernel_rfl))⟩
  f23 := ⟨Tryz.f148.name, by decide, Tryz.func148.trans (congrArg some (by kernel_rfl))⟩
  f24 := ⟨Tryz.f149.name, by decide, Tryz.func149.trans (congrArg some (by kernel_rfl))⟩
  f25 := ⟨Tryz.f150.name, by decide, Tryz.func150.trans (congrArg some (by kernel_rfl))⟩
  f26 := ⟨Tryz.f151.name, by decide, Tryz.func151.trans (congrArg some (by kernel_rfl))⟩
  f27 := ⟨Tryz.f152.name, by decide, Tryz.func152.trans (congrArg some (by kernel_rfl))⟩
  f28 := Tryz.func153.trans (congrArg some (by kernel_rfl))
  f29 := Tryz.func154.trans (congrArg some (by kernel_rfl))
  f46 := ⟨Tryz.f178.name, by decide, Tryz.func178.trans (congrArg some (by kernel_rfl))⟩
  f47 := Tryz.func179.trans (congrArg some (by kernel_rfl))
  f48 := Tryz.func180.trans (congrArg some (by kernel_rfl))
  f49 := ⟨Tryz.f181.name, by decide, Tryz.func181.trans (congrArg some (by kernel_rfl))⟩
  f50 := ⟨Tryz.f182.name, by decide, Tryz.func182.trans (congrArg some (by kernel_rfl))⟩
  f57 := ⟨Tryz.f195.name, by decide, Tryz.func195.trans (congrArg some (by kernel_rfl))⟩
  t0 := Tryz.underlying0
  a0 := Tryz.isAgg0
  z0 := Tryz.sizeOf0
  v0 := Tryz.zeroValue0
  t3 := Tryz.underlying3
  a3 := Tryz.isAgg3
  z3 := Tryz.sizeOf3
  v3 := Tryz.zeroValue3
  t4 := Tryz.underlying4
  a4 := Tryz.isAgg4
  z4 := Tryz.sizeOf4
  v4 := Tryz.zeroValue4
  t5 := Tryz.underlying5
  a5 := Tryz.isAgg5
  z5 := Tryz.sizeOf5
  v5 := Tryz.zeroValue5
  t9 := Tryz.underlying9
  a9 := Tryz.isAgg9
  z9 := Tryz.sizeOf9
  v9 := Tryz.zeroValue9
  t22 := Tryz.underlying42
  a22 := Tryz.isAgg42
  z22 := Tryz.sizeOf42
  v22 := Tryz.zeroValue42
  t25 := Tryz.underlying151
  a25 := Tryz.isAgg151
  z25 := Tryz.sizeOf151
  v25 := Tryz.zeroValue151
  t39 := Tryz.underlying177
  a39 := Tryz.isAgg177
  z39 := Tryz.sizeOf177
  v39 := Tryz.zeroValue177
  t45 := Tryz.underlying196
  a45 := Tryz.isAgg196
  z45 := Tryz.sizeOf196
  v45 := Tryz.zeroValue196
  t46 := Tryz.underlying197
  a46 := Tryz.isAgg197
  z46 := Tryz.sizeOf197
  v46 := Tryz.zeroValue197
  t50 := Tryz.underlying201
  a50 := Tryz.isAgg201
  z50 := Tryz.sizeOf201
  v50 := Tryz.zeroValue201
  t53 := Tryz.underlying204
  a53 := Tryz.isAgg204
  z53 := Tryz.sizeOf204
  v53 := Tryz.zeroValue204
  t55 := Tryz.underlying61
  a55 := Tryz.isAgg61
  z55 := Tryz.sizeOf61
  v55 := Tryz.zeroValue61
  t66 := Tryz.underlying222
  a66 := Tryz.isAgg222
  z66 := Tryz.sizeOf222
  v66 := Tryz.zeroValue222
  t70 := Tryz.underlying193
  a70 := Tryz.isAgg193
  z70 := Tryz.sizeOf193
  v70 := Tryz.zeroValue193
  t76 := Tryz.underlying235
  a76 := Tryz.isAgg235
  z76 := Tryz.sizeOf235
  v76 := Tryz.zeroValue235
  t77 := Tryz.underlying172
  a77 := Tryz.isAgg172
  z77 := Tryz.sizeOf172
  v77 := Tryz.zeroValue172 }
end Go.Proofs
/- Contract: slices.SortFunc of what was found. -/
namespace Go.Proofs.YtgkmcnafkhdlnaaGreat
open Go Go.Shelf Go.RowKit Go.Lib Go.Sort
theorem world_grow {W w' : World} (hh : ∀ (i : Nat) (o : Obj), W.heap[i]? = some o → w'.heap[i]? = some o) (hs : W.heap.size ≤ w'.heap.size) (ho : World.outer w' = World.outer W) (hd : W.drawn ≤ w'.drawn) : ∃ q os', w' = grow (W.drewN q) os' := by
  refine ⟨w'.drawn - W.drawn, w'.heap.extract W.heap.size w'.heap.size, ?_⟩
  obtain ⟨heap, tape, drawn, os, output⟩ := w'
  have h1 : os = W.os := congrArg Prod.fst ho
  have h2 : tape = W.tape := congrArg (fun x => x.2.1) ho
  have h3 : output = W.output := congrArg (fun x => x.2.2) ho
  subst h1 h2 h3
  have hd' : W.drawn ≤ drawn := hd
  have hs' : W.heap.size ≤ heap.size := hs
  have e1 : heap = W.heap ++ heap.extract W.heap.size heap.size := by
    apply Array.ext_getElem?
    intro i
    rw [Array.getElem?_append]
    by_cases hi : i < W.heap.size
    · rw [if_pos hi, Array.getElem?_eq_getElem hi]
      exact hh i _ (Array.getElem?_eq_getElem hi)
    · rw [if_neg hi, Array.getElem?_extract]
      by_cases hj : i < heap.size
      · rw [if_pos (by omega)]
        congr 1
        omega
      · rw [if_neg (by omega), Array.getElem?_eq_none (by omega)]
  have e2 : drawn = W.drawn + (drawn - W.drawn) := by omega
  show (⟨heap, W.tape, drawn, W.os, W.output⟩ : World) = ⟨W.heap ++ heap.extract W.heap.size heap.size, W.tape, W.drawn + (drawn - W.drawn), W.os, W.output⟩
  rw [← e1, ← e2]
theorem order_lays (blk off size : Nat) (w : World) : CmpLays Tryz.prog 94 #[] celP 4 ordP blk off size w := by
  intro m os dk _ x y
  rw [Array.append_empty]
  have h := (@order_ok ⟨True⟩ x y (V := View.all (sortWorldK celP 4 w blk off m dk os))).2 _ (View.all_in _)
  refine Calls.mono h ?_
  rintro e w' ⟨r, V', he, hi, hf, rfl, hle⟩
  exact ⟨he, world_grow (fun i o ho => hi.see i o (hle.see i o ho)) (@Fr.size ⟨True⟩ _ _ _ _ hf) (hi.out.trans hle.out) (@Fr.drawn ⟨True⟩ _ _ _ _ hf trivial)⟩
theorem ordP_lt (p q : P2 × P2) : ltOf ordP p q = decide (p.2.1 < q.2.1 ∨ (p.2.1 = q.2.1 ∧ p.2.2 < q.2.2)) := by
  unfold ltOf ordP cmpI
  rw [Bool.eq_iff_iff]
  simp only [decide_eq_true_eq]
  split <;> split <;> (try split) <;> (try split) <;> omega
theorem ordP_swo : SWO (ltOf ordP) where
  irrefl x := by rw [ordP_lt]; simp
  trans x y z h1 h2 := by rw [ordP_lt] at *; simp at *; omega
  ntrans x y z h1 h2 := by rw [ordP_lt] at *; simp at *; omega
/-- The cells of what was found. -/
def fl (l : PL) : List Value := l.flatMap celP
theorem fl_len (l : PL) : (fl l).length = l.length * 4 := by
  induction l with
  | nil => rfl
  | cons p l ih =>
    show (celP p ++ fl l).length = _
    rw [List.length_append, ih]
    simp [celP]; omega
theorem fl_get : ∀ (l : PL) (t : Nat), t < l.length * 4 → (fl l)[t]? = some ((celP l[t / 4]!)[t % 4]!)
  | [], t, h => by simp at h
  | p :: l, t, h => by
    show (celP p ++ fl l)[t]? = _
    by_cases ht : t < 4
    · rw [List.getElem?_append_left (by simpa [celP] using ht), show t / 4 = 0 by omega, show t % 4 = t by omega]
      rcases (by omega : t = 0 ∨ t = 1 ∨ t = 2 ∨ t = 3) with rfl | rfl | rfl | rfl <;> rfl
    · rw [List.getElem?_append_right (by simp [celP]; omega)]
      show (fl l)[t - 4]? = _
      rw [fl_get l (t - 4) (by simp at h; omega), show t / 4 = (t - 4) / 4 + 1 by omega, show t % 4 = (t - 4) % 4 by omega]
      rfl
theorem flatK_fl (l : PL) : flatK celP 4 l.toArray = (fl l).toArray := by
  apply Array.ext_getElem?
  intro t
  refine Eq.trans ?_ (List.getElem?_toArray (xs := fl l) (i := t)).symm
  by_cases h : t < l.length * 4
  · have hs : t < (flatK celP 4 l.toArray).size := by rw [size_flatK]; simpa using h
    have := get_flatK celP 4 l.toArray t (by simpa using h)
    rw [getElem!_pos _ t hs] at this
    refine (Array.getElem?_eq_getElem hs).trans ?_
    rw [fl_get l t h, this]
    simp
  · refine (Array.getElem?_eq_none (by rw [size_flatK]; simpa using h)).trans ?_
    rw [List.getElem?_eq_none (by rw [fl_len]; omega)]
theorem sort_enters : Enters Tryz.prog 93 := enters_of Tryz.func93 (by kernel_rfl) rfl
theorem getA (L : List Value) (i : Nat) : (⟨L⟩ : Array Value)[i]? = L[i]? := List.getElem?_toArray
/-- The row in a world behind the sort. -/
theorem putRow_heap {w : World} {r : Nat} {all : List Value} {e : TypeId} {F : List Value} (hr : w.heap[r]? = some (.cells ⟨all⟩ e (0, 0))) (hF : F.length ≤ all.length) (i : Nat) :
    (putRow id w r 0 F.toArray).heap[i]? = if i = r then some (.cells ⟨F ++ all.drop F.length⟩ e (0, 0)) else w.heap[i]? := by
  show (w.heap.modify r (onCells (putCells id 0 F.toArray)))[i]? = _
  rw [Array.getElem?_modify]
  by_cases h : r = i
  · subst h
    rw [if_pos rfl, if_pos rfl, hr]
    show some (Obj.cells (putCells id 0 F.toArray ⟨all⟩) e (0, 0)) = _
    congr 2
    apply Array.ext_getElem?
    intro j
    unfold putCells
    rw [Array.getElem?_mapIdx, getA, getA]
    by_cases hj : j < F.length
    · rw [List.getElem?_append_left hj, List.getElem?_eq_getElem (by omega), Option.map_some, if_pos ⟨Nat.zero_le _, by simpa using hj⟩, List.getElem?_eq_getElem hj]
      simp [hj]
    · rw [List.getElem?_append_right (by omega), List.getElem?_drop, show F.length + (j - F.length) = j by omega]
      cases all[j]? with
      | none => rfl
      | some v => rw [Option.map_some, if_neg (by simp; omega)]
  · rw [if_neg h, if_neg (fun e => h e.symm)]
theorem sort_ok {V : View} {x : Sl} {l : PL} (h : Buf V x 52 4 (fl l)) : CallV Tryz.prog 93 ⟨[.slice x.a x.n x.c, .func (.func 94) ⟨[]⟩ ⟨[]⟩]⟩ V fun r V' =>
    r = .tuple ⟨[]⟩ ∧ ∃ m : PL, m.Perm l ∧ m.Pairwise (fun p q => ltOf ordP q p = false) ∧ Buf V' x 52 4 (fl m) ∧ (V.minus x).Le (V'.minus x) := by
  refine ⟨sort_enters, fun w hw => ?_⟩
  have hn : x.n = l.length := by have := h.len; rw [fl_len] at this; omega
  rcases h.own with ⟨ha, hc⟩ | ⟨r, all, ha, hs, hl, ht⟩
  · have h0 : x.n = 0 := by have := h.le; omega
    have hl0 : l = [] := List.length_eq_zero_iff.1 (by omega)
    rw [h0]
    refine Calls.mono (AnyF.slices_SortFunc_none Tryz.sortF x.a x.c _ w) ?_
    rintro e w' ⟨rfl, rfl⟩
    exact ⟨_, V, rfl, hw, Fr.refl _ _, rfl, l, .refl _, by rw [hl0]; exact .nil, h, View.Le.refl _⟩
  · have hr := hw.see r _ hs
    have hlt : r < w.heap.size := (Array.getElem?_eq_some_iff.1 hr).1
    have hfl : (fl l).length = x.n * 4 := h.len
    have hH : HoldsK celP 4 w r 0 l.toArray := by
      unfold HoldsK
      rw [flatK_fl]
      intro j hj
      have hj : j < (fl l).length := by simpa using hj
      refine ⟨?_, ?_⟩
      · unfold World.cell?
        show (match w.heap[r]? with
          | some (.cells c _ _) => if (none : Option _).isSome then none else c[0 + j]?
          | _ => none) = _
        rw [hr]
        show (⟨all⟩ : Array Value)[0 + j]? = _
        rw [getA, Nat.zero_add]
        have : (fl l)[j]? = all[j]? := by rw [← ht, List.getElem?_take, if_pos (by omega)]
        rw [← this, List.getElem?_eq_getElem hj]
        simp [hj]
      · unfold World.frozen?
        show (match w.heap[r]? with
          | some (.cells _ _ (lo, hi)) => decide (lo ≤ 0 + j) && decide (0 + j < hi)
          | _ => false) = _
        rw [hr]; simp
    rw [ha, hn]
    have hsz : l.toArray.size < 4611686018427387904 := by have := h.lim; simp; omega
    have eg : ∀ args w, (callFunc 94 args).run Tryz.prog w = .ok (.enter 94 args) w := (order_ok ((0, 0), (0, 0)) ((0, 0), (0, 0)) (V := V)).1
    have hcon := AnyQ.slices_SortFunc Tryz.sortF 4 Tryz.isAgg52 Tryz.sizeOf52 celP (fun _ => rfl) (fun y v hv => by simp [celP] at hv; rcases hv with rfl | rfl | rfl | rfl <;> rfl) ordP ordP_swo 94 #[] r 0 x.c l.toArray w eg (order_lays r 0 _ w) hH hlt hsz
    refine Calls.mono hcon ?_
    rintro e w' ⟨rfl, d', n, os, hp, hso, rfl⟩
    obtain ⟨m, rfl⟩ : ∃ m : PL, d' = m.toArray := ⟨d'.toList, by simp⟩
    have hml : m.length = l.length := by simpa using hp.1
    have hpm : m.Perm l := by
      have h7 : (List.take l.length m).Perm l := by simpa using hp.2.2
      rwa [List.take_of_length_le (by omega)] at h7
    have hso2 : m.Pairwise (fun p q => ltOf ordP q p = false) := by
      rw [List.pairwise_iff_getElem]
      intro i j hi hj hij
      have := hso i j (Nat.zero_le _) hij (by simpa using (by omega : j < l.length))
      rw [getElem!_pos _ i (by simpa using hi), getElem!_pos _ j (by simpa using hj)] at this
      simpa using this
    have hfm : (fl m).length = x.n * 4 := by rw [fl_len, hml, hn]
    have hal : (fl m).length ≤ all.length := by rw [hfm, hl]; have := h.le; omega
    have hheap : ∀ i, i < w.heap.size → (sortWorldK celP 4 w r 0 n m.toArray os).heap[i]? = if i = r then some (.cells ⟨fl m ++ all.drop (fl m).length⟩ 52 (0, 0)) else w.heap[i]? := by
      intro i hi
      have h8 := putRow_heap (w := Sort.ahead w n) hr hal i
      unfold sortWorldK putRowK
      rw [flatK_fl]
      refine Eq.trans ?_ h8
      show ((putRow id (Sort.ahead w n) r 0 (fl m).toArray).heap ++ os)[i]? = _
      rw [Array.getElem?_append, if_pos (by rw [size_putRow]; exact hi)]
    have hsize : w.heap.size ≤ (sortWorldK celP 4 w r 0 n m.toArray os).heap.size := size_sortWorldK_c celP 4 w r 0 n m.toArray os
    refine ⟨_, V.put r (.cells ⟨fl m ++ all.drop (fl m).length⟩ 52 (0, 0)), rfl, ⟨?_, ?_, ?_⟩, ⟨hsize, ?_, fun _ => Nat.le_add_right _ _⟩, rfl, m, hpm, hso2, ?_, ?_⟩
    · have := hw.size
      show max V.size (r + 1) ≤ _
      omega
    · intro i o ho
      by_cases hi : i = r
      · subst hi
        rw [View.see_put_same] at ho
        rw [hheap i hlt, if_pos rfl]; exact ho
      · rw [View.see_put_ne _ _ hi] at ho
        have h9 := hw.see i o ho
        rw [hheap i (Array.getElem?_eq_some_iff.1 h9).1, if_neg hi]; exact h9
    · exact hw.out
    · intro i hi hne
      have hir : i ≠ r := by rintro rfl; rw [hs] at hne; cases hne
      exact ⟨by rw [View.see_put_ne _ _ hir]; exact hne, by rw [hheap i hi, if_neg hir]⟩
    · refine ⟨hfm, h.le, h.lim, .inr ⟨r, fl m ++ all.drop (fl m).length, ha, View.see_put_same _ _ _, ?_, ?_⟩⟩
      · rw [List.length_append, List.length_drop]; omega
      · rw [← hfm, List.take_left]
    · unfold View.minus
      rw [ha]
      exact ⟨Nat.le_max_left _ _, fun i o ho => by
        by_cases hi : i = r
        · subst hi; simp [View.hide] at ho
        · simp only [View.hide, if_neg hi] at ho ⊢
          rw [View.see_put_ne _ _ hi]; exact ho, rfl⟩
theorem nodup_len {α : Type} [DecidableEq α] {m l : List α} (h1 : m.Nodup) (h2 : l.Nodup) (h : ∀ a ∈ m, a ∈ l) : m.length ≤ l.length := by
  have hp : m.Perm (l.filter fun a => decide (a ∈ m)) := (List.perm_ext_iff_of_nodup h1 (h2.sublist List.filter_sublist)).2 fun a => by
    rw [List.mem_filter, decide_eq_true_eq]
    exact ⟨fun ha => ⟨h a ha, ha⟩, fun ha => ha.2⟩
  rw [hp.length_eq]
  exact List.length_filter_le _ _
/-- What was told so far of a walk over a map. -/
structure Told (es : Array MapEntry) (xs : Array Nat) (m : PL) : Prop where
  nd : m.Nodup
  iff : ∀ p, p ∈ m ↔ ∃ e ∈ es, xs.contains e.born = true ∧ e.key = encP p.2 ∧ e.val = encP p.1
theorem Told.nil (es : Array MapEntry) : Told es #[] [] := ⟨List.nodup_nil, fun p => by simp⟩
theorem MapC.ent {es : Array MapEntry} {cl : Nat} {lb : PL} (h : MapC es cl lb) {e : MapEntry} (he : e ∈ es) : ∃ p ∈ lb, e.key = encP p.1 ∧ e.val = encP p.2 := by
  obtain ⟨i, hi, rfl⟩ := List.mem_iff_getElem.1 (Array.mem_toList_iff.2 he)
  have hl := h.size
  have hi' : i < lb.length := by simp at hi; omega
  obtain ⟨e', h1, h2, h3⟩ := h.at hi'
  rw [List.getElem?_eq_getElem hi] at h1
  cases h1
  exact ⟨_, List.getElem_mem hi', h2, h3⟩
theorem MapC.ofMem {es : Array MapEntry} {cl : Nat} {lb : PL} (h : MapC es cl lb) {p : P2 × P2} (hp : p ∈ lb) : ∃ e ∈ es, e.key = encP p.1 ∧ e.val = encP p.2 := by
  obtain ⟨i, hi, rfl⟩ := List.mem_iff_getElem.1 hp
  obtain ⟨e, h1, h2, h3⟩ := h.at hi
  exact ⟨e, Array.mem_toList_iff.1 (List.mem_of_getElem? h1), h2, h3⟩
/-- Entries with one key are one. -/
theorem MapC.one {es : Array MapEntry} {cl : Nat} {lb : PL} (h : MapC es cl lb) {e e' : MapEntry} (he : e ∈ es) (he' : e' ∈ es) (hk : e.key = e'.key) : e = e' := by
  obtain ⟨i, hi, rfl⟩ := List.mem_iff_getElem.1 (Array.mem_toList_iff.2 he)
  obtain ⟨j, hj, rfl⟩ := List.mem_iff_getElem.1 (Array.mem_toList_iff.2 he')
  have hl := h.size
  have hi' : i < lb.length := by simp at hi; omega
  have hj' : j < lb.length := by simp at hj; omega
  obtain ⟨e1, h1, h2, h3⟩ := h.at hi'
  obtain ⟨e2, k1, k2, k3⟩ := h.at hj'
  rw [List.getElem?_eq_getElem hi] at h1
  rw [List.getElem?_eq_getElem hj] at k1
  cases h1; cases k1
  rw [h2, k2] at hk
  have hk := encP_inj hk
  have hp := List.pairwise_iff_getElem.1 h.keys
  have : i = j := by
    rcases Nat.lt_trichotomy i j with h9 | h9 | h9
    · exact absurd ((List.getElem_map _).trans (hk.trans (List.getElem_map _).symm)) (hp i j (by simpa using hi') (by simpa using hj') h9)
    · exact h9
    · exact absurd ((List.getElem_map _).trans (hk.symm.trans (List.getElem_map _).symm)) (hp j i (by simpa using hj') (by simpa using hi') h9)
  subst this; rfl
theorem MapC.stamp {es : Array MapEntry} {cl : Nat} {lb : PL} (h : MapC es cl lb) {e e' : MapEntry} (he : e ∈ es) (he' : e' ∈ es) (hk : e.born = e'.born) : e = e' := by
  obtain ⟨i, hi, rfl⟩ := List.mem_iff_getElem.1 (Array.mem_toList_iff.2 he)
  obtain ⟨j, hj, rfl⟩ := List.mem_iff_getElem.1 (Array.mem_toList_iff.2 he')
  have hp := List.pairwise_iff_getElem.1 h.born
  have : i = j := by
    rcases Nat.lt_trichotomy i j with h9 | h9 | h9
    · exact absurd ((List.getElem_map _).trans (hk.trans (List.getElem_map _).symm)) (hp i j (by simpa using hi) (by simpa using hj) h9)
    · exact h9
    · exact absurd ((List.getElem_map _).trans (hk.symm.trans (List.getElem_map _).symm)) (hp j i (by simpa using hj) (by simpa using hi) h9)
  subst this; rfl
theorem Told.add {es : Array MapEntry} {cl : Nat} {lb : PL} (h : MapC es cl lb) {xs : Array Nat} {m : PL} (t : Told es xs m) {e : MapEntry} (he : e ∈ es) (hx : xs.contains e.born = false) {p : P2 × P2} (hk : e.key = encP p.2) (hv : e.val = encP p.1) :
    p ∉ m ∧ Told es (xs.push e.born) (m ++ [p]) := by
  have hn : p ∉ m := by
    intro hm
    obtain ⟨e', he', hx', hk', _⟩ := (t.iff p).1 hm
    have := h.one he he' (hk.trans hk'.symm)
    subst this
    rw [hx] at hx'; cases hx'
  refine ⟨hn, ⟨?_, fun q => ?_⟩⟩
  · rw [List.nodup_append]
    exact ⟨t.nd, by simp, fun a ha b hb => by simp at hb; subst hb; rintro rfl; exact hn ha⟩
  · rw [List.mem_append, List.mem_singleton, t.iff q]
    constructor
    · rintro (⟨e', h1, h2, h3⟩ | rfl)
      · exact ⟨e', h1, by simp at h2 ⊢; exact .inl h2, h3⟩
      · exact ⟨e, he, by simp, hk, hv⟩
    · rintro ⟨e', h1, h2, h3, h4⟩
      simp only [Array.contains_push, Bool.or_eq_true, beq_iff_eq] at h2
      rcases h2 with h2 | h2
      · exact .inl ⟨e', h1, h2, h3, h4⟩
      · have := h.stamp h1 he (by rw [h2])
        subst this
        right
        rw [hk] at h3; rw [hv] at h4
        exact Prod.ext (encP_inj h4.symm) (encP_inj h3.symm)
theorem Told.all {es : Array MapEntry} {cl : Nat} {lb l : PL} (h : MapC es cl lb) (hp : lb.Perm (swapL l)) (hu : Uni l) {xs : Array Nat} {m : PL} (t : Told es xs m) (ha : ∀ e ∈ es, xs.contains e.born = true) : m.Perm l := by
  have hl : l.Nodup := by
    have := hu.a
    exact List.Pairwise.of_map _ (fun a b hab => by rintro rfl; exact hab rfl) this
  refine (List.perm_ext_iff_of_nodup t.nd hl).2 fun p => ?_
  rw [t.iff p]
  constructor
  · rintro ⟨e, h1, _, h2, h3⟩
    obtain ⟨q, hq, h4, h5⟩ := h.ent h1
    have e1 : q = (p.2, p.1) := Prod.ext (encP_inj (h4.symm.trans h2)) (encP_inj (h5.symm.trans h3))
    rw [e1] at hq
    exact swapL_mem.1 (hp.mem_iff.1 hq)
  · intro hm
    obtain ⟨e, h1, h2, h3⟩ := h.ofMem (hp.mem_iff.2 (swapL_mem.2 (show (p.1, p.2) ∈ l from hm)))
    exact ⟨e, h1, ha e h1, h2, h3⟩
theorem Told.len {es : Array MapEntry} {cl : Nat} {lb l : PL} (h : MapC es cl lb) (hp : lb.Perm (swapL l)) (hu : Uni l) {xs : Array Nat} {m : PL} (t : Told es xs m) : m.length ≤ l.length := by
  have hl : l.Nodup := List.Pairwise.of_map _ (fun a b hab => by rintro rfl; exact hab rfl) hu.a
  refine nodup_len t.nd hl fun p hm => ?_
  obtain ⟨e, h1, _, h2, h3⟩ := (t.iff p).1 hm
  obtain ⟨q, hq, h4, h5⟩ := h.ent h1
  have e1 : q = (p.2, p.1) := Prod.ext (encP_inj (h4.symm.trans h2)) (encP_inj (h5.symm.trans h3))
  rw [e1] at hq
  exact swapL_mem.1 (hp.mem_iff.1 hq)
theorem fl_snoc (m : PL) (p : P2 × P2) : fl (m ++ [p]) = fl m ++ celP p := by
  unfold fl; rw [List.flatMap_append]; simp
theorem all_ok {V : View} {t ra rb : Nat} {l : PL} (h : Tab V t ra rb l) (hn : l.length ≤ 1000000) : CallV Tryz.prog 53 ⟨[.pointer (some ⟨t, 0, none⟩)]⟩ V fun r V' =>
    ∃ (s : Sl) (m : PL), r = .slice s.a s.n s.c ∧ m.Perm l ∧ m.Pairwise (fun p q => ltOf ordP q p = false) ∧ Buf V' s 52 4 (fl m) ∧ V.Le (V'.minus s) := by
  refine f53_x ?_
  unfold f53_n
  obtain ⟨es, cl, lb, h1, h2, h3⟩ := h.mb.ex
  refine ⟨_, rfl, some rb, by rw [addr0_add]; exact h.cb, es, cl, h1, fun it hit => ?_⟩
  have hfr : V.see it = none := View.see_none_of_ge hit
  have hlb : lb.length ≤ 1000000 := by rw [h3.length_eq]; unfold swapL; rw [List.length_map]; exact hn
  refine loopP_inv (ks := [K.sl]) (fun s V' => ∃ xs m, V'.see it = some (.mapIter (some rb) cl xs cl) ∧ Told es xs m ∧ Buf (V'.hide it) s.1 52 4 (fl m) ∧ V.Le ((V'.hide it).minus s.1))
    (fun s _ => l.length - s.1.n) ⟨#[], [], View.see_put_same _ _ _, Told.nil es, Buf.nil _ _ _, ?_⟩ ?_
  · exact put_le_hide hfr (View.Le.refl _)
  rintro ⟨x, _⟩ V' ⟨xs, m, g1, g2, g3, g4⟩
  have hle : V.Le V' := g4.trans ((View.minus_le _ _).trans (View.hide_le _ _))
  have hbs : V'.see rb = some (.map es cl) := hle.see _ _ h1
  have hxn : x.n = m.length := by have : _ = x.n * 4 := g3.len; rw [fl_len] at this; omega
  have hml := g2.len h2 h3 h.uni
  refine .inr ⟨rb, cl, xs, cl, es, cl, g1, hbs, .inl ?_, fun e he hx => ?_, fun hE => ?_⟩
  · rw [Array.all_eq_true']
    intro e he
    simpa using h2.lt e (Array.mem_toList_iff.2 he)
  · obtain ⟨q, hq, hk, hv⟩ := h2.ent he
    obtain ⟨a1, a2⟩ := g2.add h2 he hx (p := (q.2, q.1)) hk hv
    have hml2 := a2.len h2 h3 h.uni
    rw [List.length_append] at hml2
    have hml2 : m.length + 1 ≤ l.length := hml2
    have hfind : es.find? (fun e' => e'.born == e.born) = some e := by
      cases hf : es.find? (fun e' => e'.born == e.born) with
      | none =>
        rw [Array.find?_eq_none] at hf
        exact absurd (beq_self_eq_true _) (hf e he)
      | some e' =>
        have hb : e'.born = e.born := by simpa using Array.find?_some hf
        rw [h2.stamp (Array.mem_of_find?_eq_some hf) he hb]
    have hne : rb ≠ it := by rintro rfl; rw [h1] at hfr; cases hfr
    refine ⟨rb, cl, xs.push e.born, cl, es, e.born, e, View.see_put_same _ _ _, by rw [View.see_put_ne _ _ hne]; exact hbs, by simp, hfind, q.1.1, q.1.2, q.2.1, q.2.2, hk, hv, fun _ _ r hr => ?_⟩
    have hl1 : (V'.hide it).Le (((V'.put it (.mapIter (some rb) cl (xs.push e.born) cl)).put r (.cells ⟨putL [.int .i64 0, .int .i64 0, .int .i64 0, .int .i64 0] 0 [.int .i64 q.2.1, .int .i64 q.2.2, .int .i64 q.1.1, .int .i64 q.1.2]⟩ 52)).hide it) :=
      (hide_le_put_hide it _).trans (hide_mono (View.put_le (View.see_none_of_ge hr)) it)
    have hri : it ≠ r := by
      rintro rfl
      have : it < (V'.put it (.mapIter (some rb) cl (xs.push e.born) cl)).size := Nat.lt_of_lt_of_le (Nat.lt_succ_self _) (Nat.le_max_right _ _)
      omega
    refine apV_beside (V0 := V) (p := it) (cs := fl m) (src := celP (q.2, q.1)) (m := 1) rfl (by rw [View.see_put_ne _ _ hri]; exact View.see_put_same _ _ _) (g3.mono hl1) (g4.trans (minus_mono hl1 x))
      ⟨rfl, rowAt_new (View.see_put_same _ _ _) rfl⟩ rfl rfl (by show (x.n + 1) * 32 ≤ _; omega) (by show x.n + 1 ≤ _; omega) fun s W hs hb hW hsn => ?_
    refine ⟨⟨xs.push e.born, m ++ [(q.2, q.1)], hs, a2, by rw [fl_snoc]; exact hb, hW⟩, ?_⟩
    have hsn : s.n = x.n + 1 := hsn
    show l.length - s.n < l.length - x.n
    omega
  · have hp := Told.all h2 h3 h.uni g2 fun e he => hE e he (h2.lt e (Array.mem_toList_iff.2 he))
    refine (sort_ok (g3.mono (View.hide_le _ _))).mono ?_
    rintro r W ⟨rfl, m', hm', hs', hb', hle'⟩
    exact ⟨rfl, x, m', rfl, hm'.trans hp, hs', hb', (g4.trans (minus_mono (View.hide_le _ _) x)).trans hle'⟩
end Go.Proofs.YtgkmcnafkhdlnaaGreat
/- The pool: Seal. -/
namespace Go.Proofs.YtgkmcnafkhdlnaaGreat
open Go
instance : Rep (P2 × P2) where
  sz := 4
  pos := by decide
  rep _ vs p := vs = celP p
  len h := by rw [h]; rfl
  one h := by rw [h]; rfl
  mono _ h := h
theorem repL_fl (W : View) : ∀ l : PL, repL W (fl l) l
  | [] => rfl
  | p :: l => ⟨celP p, fl l, rfl, rfl, repL_fl W l⟩
theorem SlR.fnd {V : View} {s : Sl} {l : PL} (h : SlR V s l) {x : Int} (h0 : 0 ≤ x) (hx : x < s.n) : ∃ ad, ∃ hl : x.toNat < l.length, s.a = some ad ∧ cellsAt V (ad.add (x.toNat * 4)) (celP l[x.toNat]) := by
  have hl : x.toNat < l.length := by have := h.n; omega
  obtain ⟨ad, vs, h1, h2, h3⟩ := h.get x.toNat hl
  have h3 : vs = celP l[x.toNat] := h3
  subst h3
  exact ⟨ad, hl, h1, h2⟩
theorem indexR_ok {s : Sl} {l : List Rf} {x : P2} {V : View} (h : SlR V s l) : CallV Tryz.prog 95 ⟨[.slice s.a s.n s.c, encP x]⟩ V fun r V' => (∃ i : Int, r = .int .i64 i ∧ decide (0 ≤ i) = decide ((⟨x.1, x.2⟩ : Rf) ∈ l)) ∧ V' = V := by
  refine f95_x ?_
  unfold f95_n
  intro _
  have hn := h.n
  have hlim := h.lim
  refine loop1 (k := .int .i64) (fun (i : Int) V' => ∃ j : Nat, i = j ∧ j ≤ l.length ∧ (⟨x.1, x.2⟩ : Rf) ∉ l.take j ∧ V' = V) (fun (i : Int) _ => l.length - i.toNat) ⟨0, rfl, Nat.zero_le _, by simp, rfl⟩ ?_
  rintro (i : Int) V' ⟨j, rfl, hj, hx, rfl⟩
  refine br_intro (fun hlt => ?_) (fun hge => ?_)
  · have hlt : j < l.length := by have := of_decide_eq_true hlt; omega
    obtain ⟨ad, hl, ha, hc, _, _⟩ := h.rf (x := (j : Int)) (by omega) (by omega)
    refine ⟨trivial, V', View.Le.refl _, by omega, by omega, ad, ha, _, _, hc, trivial, br_intro (fun he => ?_) (fun he => ?_)⟩
    · simp only [Bool.and_true, Bool.and_eq_true, decide_eq_true_eq] at he
      refine ⟨⟨_, rfl, ?_⟩, rfl⟩
      rw [decide_eq_true (show (0 : Int) ≤ (j : Int) by omega), decide_eq_true]
      rw [show (⟨x.1, x.2⟩ : Rf) = l[(j : Int).toNat] by rw [he.1, he.2]]
      exact List.getElem_mem _
    · refine ⟨inI64 (by omega) (by omega), ⟨j + 1, by omega, by omega, fun hm => ?_, rfl⟩, by omega⟩
      rw [List.take_add_one, List.getElem?_eq_getElem hlt, List.mem_append] at hm
      rcases hm with hm | hm
      · exact hx hm
      · simp only [Option.toList_some, List.mem_singleton] at hm
        have e : l[(j : Int).toNat] = ⟨x.1, x.2⟩ := hm.symm
        rw [e] at he
        simp at he
  · have hge : l.length ≤ j := by have := of_decide_eq_false hge; omega
    rw [List.take_of_length_le hge] at hx
    exact ⟨⟨-1, rfl, by rw [decide_eq_false hx]; rfl⟩, rfl⟩
theorem containsR_ok {s : Sl} {l : List Rf} {x : P2} {V : View} (h : SlR V s l) : CallV Tryz.prog 55 ⟨[.slice s.a s.n s.c, encP x]⟩ V fun r V' => r = .bool (decide ((⟨x.1, x.2⟩ : Rf) ∈ l)) ∧ V' = V := by
  refine f55_x ?_
  unfold f55_n
  intro _
  refine (indexR_ok h).mono ?_
  rintro r V1 ⟨⟨i, rfl, hi⟩, rfl⟩
  exact ⟨i, rfl, by rw [hi], rfl⟩
theorem wl1_ok {V : View} {b : Nat} {q : Int} (h1 : V.cell? ((⟨b, 0, none⟩ : Addr).add 0) = some (.int .i64 q)) (x : Rf) : CallV Tryz.prog 123 ⟨[.agg ⟨[.int .i64 x.page, .int .i64 x.seq]⟩, .pointer (some ⟨b, 0, none⟩)]⟩ V fun r V' => r = .bool (decide (x.page = q)) ∧ V' = V := by
  refine f123_x ?_
  unfold f123_n
  intro _
  exact ⟨q, h1, rfl, rfl⟩
theorem indexFR_ok {s : Sl} {l : List Rf} {V : View} {b : Nat} {q : Int} (h : SlR V s l) (h1 : V.cell? ((⟨b, 0, none⟩ : Addr).add 0) = some (.int .i64 q)) : CallV Tryz.prog 144 ⟨[.slice s.a s.n s.c, .func (.func 123) ⟨[]⟩ ⟨[.pointer (some ⟨b, 0, none⟩)]⟩]⟩ V fun r V' => (∃ i : Int, r = .int .i64 i ∧ decide (0 ≤ i) = l.any fun x => decide (x.page = q)) ∧ V' = V := by
  refine f144_x (x1 := []) (y1 := [.pointer (some ⟨b, 0, none⟩)]) ?_
  unfold f144_n
  have hn := h.n
  have hlim := h.lim
  refine loop1 (k := .int .i64) (fun (i : Int) V' => ∃ j : Nat, i = j ∧ j ≤ l.length ∧ ((l.take j).any fun x => decide (x.page = q)) = false ∧ V' = V) (fun (i : Int) _ => l.length - i.toNat) ⟨0, rfl, Nat.zero_le _, by simp, rfl⟩ ?_
  rintro (i : Int) V' ⟨j, rfl, hj, hx, rfl⟩
  refine br_intro (fun hlt => ?_) (fun hge => ?_)
  · have hlt : j < l.length := by have := of_decide_eq_true hlt; omega
    obtain ⟨ad, hl, ha, hc, _, _⟩ := h.rf (x := (j : Int)) (by omega) (by omega)
    refine ⟨by omega, by omega, ad, ha, _, _, hc, (wl1_ok h1 l[(j : Int).toNat]).mono ?_⟩
    rintro r V1 ⟨rfl, rfl⟩
    refine ⟨_, rfl, br_intro (fun he => ?_) (fun he => ?_)⟩
    · refine ⟨⟨_, rfl, ?_⟩, rfl⟩
      rw [decide_eq_true (show (0 : Int) ≤ (j : Int) by omega)]
      exact (List.any_eq_true.2 ⟨_, List.getElem_mem hl, he⟩).symm
    · refine ⟨inI64 (by omega) (by omega), ⟨j + 1, by omega, by omega, ?_, rfl⟩, by omega⟩
      rw [List.take_add_one, List.getElem?_eq_getElem hlt, List.any_append, hx]
      simpa using he
  · have hge : l.length ≤ j := by have := of_decide_eq_false hge; omega
    rw [List.take_of_length_le hge] at hx
    exact ⟨⟨-1, rfl, by rw [hx]; rfl⟩, rfl⟩
theorem containsFR_ok {s : Sl} {l : List Rf} {V : View} {b : Nat} {q : Int} (h : SlR V s l) (h1 : V.cell? ((⟨b, 0, none⟩ : Addr).add 0) = some (.int .i64 q)) : CallV Tryz.prog 122 ⟨[.slice s.a s.n s.c, .func (.func 123) ⟨[]⟩ ⟨[.pointer (some ⟨b, 0, none⟩)]⟩]⟩ V fun r V' => r = .bool (l.any fun x => decide (x.page = q)) ∧ V' = V := by
  refine f122_x (x1 := []) (y1 := [.pointer (some ⟨b, 0, none⟩)]) ?_
  unfold f122_n
  refine (indexFR_ok h h1).mono ?_
  rintro r V1 ⟨⟨i, rfl, hi⟩, rfl⟩
  exact ⟨i, rfl, by rw [hi], rfl⟩
/-- May the i-th be live, beside those ahead of it? -/
def okAt (T : PL) (live : List Rf) (i : Nat) : Bool := (lookP ((live.getD i ⟨0, 0⟩).page, (live.getD i ⟨0, 0⟩).seq) T).isSome && !decide ((live.getD i ⟨0, 0⟩).page = 0) && !((live.take i).any fun x => decide (x.page = (live.getD i ⟨0, 0⟩).page))
def wrongL (T : PL) (da : Int) (live : List Rf) : Bool := !((List.range live.length).all (okAt T live)) || decide (da < live.length)
theorem wrongLive_ok {V : View} {O : Nat → Prop} {A : PAd} {C : Chp} {P : Pol} (h : PoolR V O A C P) {s : Sl} {live : List Rf} (hl : SlR V s live) : CallV Tryz.prog 91 ⟨[.pointer (some ⟨A.p, 0, none⟩), .slice s.a s.n s.c]⟩ V fun r V' => r = .bool (wrongL P.T P.g.da live) ∧ V.Le V' := by
  refine f91_x ?_
  unfold f91_n
  have hn := hl.n
  have hc := hl.c
  have hlim := hl.lim
  refine loop1 (k := .int .i64) (fun (i : Int) V' => ∃ j : Nat, i = j ∧ j ≤ live.length ∧ (List.range j).all (okAt P.T live) = true ∧ V.Le V') (fun (i : Int) _ => live.length - i.toNat) ⟨0, rfl, Nat.zero_le _, rfl, View.Le.refl _⟩ ?_
  rintro (i : Int) V1 ⟨j, rfl, hj, hall, hV1⟩
  refine br_intro (fun hlt => ?_) (fun hge => ?_)
  · have hlt : j < live.length := by have := of_decide_eq_true hlt; omega
    obtain ⟨ad, hlx, ha, hcc, hi1, hi2⟩ := (hl.mono hV1).rf (x := (j : Int)) (by omega) (by omega)
    have hg : live[(j : Int).toNat] = live.getD j ⟨0, 0⟩ := by rw [List.getD_eq_getElem?_getD, List.getElem?_eq_getElem hlt]; rfl
    rw [hg] at hcc hi1 hi2
    have hst : ∀ q : Bool, okAt P.T live j = q → q = false → wrongL P.T P.g.da live = true := by
      intro q hq hq'
      unfold wrongL
      have : (List.range live.length).all (okAt P.T live) = false := by
        rw [Bool.eq_false_iff]
        intro e
        have := List.all_eq_true.1 e j (List.mem_range.2 hlt)
        rw [hq, hq'] at this; cases this
      rw [this]; rfl
    refine ⟨by omega, by omega, ad, ha, _, _, hcc, fun b hb => ⟨canSet_of (View.see_put_same _ _ _) (by simp), ?_⟩⟩
    have es : (V1.put b (.cells ⟨[.int .i64 0, .int .i64 0]⟩ 33)).sets ⟨b, 0, none⟩ [.int .i64 (live.getD j ⟨0, 0⟩).page, .int .i64 (live.getD j ⟨0, 0⟩).seq] = V1.put b (.cells ⟨[.int .i64 (live.getD j ⟨0, 0⟩).page, .int .i64 (live.getD j ⟨0, 0⟩).seq]⟩ 33) := by
      rw [sets_see (View.see_put_same _ _ _), View.put_put]; rfl
    rw [es]
    have hp := View.put_le (o := .cells ⟨[.int .i64 (live.getD j ⟨0, 0⟩).page, .int .i64 (live.getD j ⟨0, 0⟩).seq]⟩ 33) hb
    have hbs : (V1.put b (.cells ⟨[.int .i64 (live.getD j ⟨0, 0⟩).page, .int .i64 (live.getD j ⟨0, 0⟩).seq]⟩ 33)).see b = some (.cells ⟨[.int .i64 (live.getD j ⟨0, 0⟩).page, .int .i64 (live.getD j ⟨0, 0⟩).seq]⟩ 33 (0, 0)) := View.see_put_same _ _ _
    have hV2 := hV1.trans hp
    generalize V1.put b (.cells ⟨[.int .i64 (live.getD j ⟨0, 0⟩).page, .int .i64 (live.getD j ⟨0, 0⟩).seq]⟩ 33) = V2 at *
    have h2 := h.le hV2
    have ht := at_ok h2.tab ((live.getD j ⟨0, 0⟩).page, (live.getD j ⟨0, 0⟩).seq)
    refine joinP_cut (fun z V' => z.1 = (lookP ((live.getD j ⟨0, 0⟩).page, (live.getD j ⟨0, 0⟩).seq) P.T).isSome ∧ V' = V2) ⟨trivial, V2, View.Le.refl _, _, rfl, _, h2.cell 7 rfl, _, _, cellsAt_of_see hbs (fun j v hj => by simpa using hj), ?_, fun _ => ⟨View.Le.refl _, ?_⟩⟩ (fun z V3 hz => ?_)
    · refine ht.mono ?_
      rintro r V3 ⟨rfl, rfl⟩
      exact ⟨_, _, _, rfl, View.Le.refl _, fun _ => ⟨View.Le.refl _, rfl, rfl⟩⟩
    · refine ht.mono ?_
      rintro r V3 ⟨rfl, rfl⟩
      exact ⟨_, _, _, rfl, View.Le.refl _, rfl, rfl⟩
    rcases z with ⟨z, ⟨⟩⟩
    obtain ⟨hz, rfl⟩ := hz
    try simp only at hz
    dsimp only [unc]
    subst hz
    have c0 : V3.cell? ((⟨b, 0, none⟩ : Addr).add 0) = some (.int .i64 (live.getD j ⟨0, 0⟩).page) := bx hbs 0 rfl
    refine joinP_cut (fun z V' => z.1 = (!okAt P.T live j) ∧ V' = V3) (br_intro (fun hb1 => ⟨?_, rfl⟩) (fun hb1 => ⟨_, by rw [Addr.add_zero] at c0; exact c0, br_intro (fun hb2 => ⟨?_, rfl⟩) (fun hb2 => ?_)⟩)) (fun z V4 hz => ?_)
    · show true = !okAt P.T live j
      unfold okAt; rw [not_t hb1]; rfl
    · show true = !okAt P.T live j
      unfold okAt; rw [hb2, Bool.not_true, Bool.and_false, Bool.false_and]; rfl
    · have hsub := (hl.mono hV2).sub (Nat.zero_le j) hj
      simp only [List.drop_zero, Nat.zero_mul, Nat.sub_zero] at hsub
      refine ⟨by omega, by omega, by omega, ?_⟩
      simp only [Int.toNat_natCast, Nat.sub_zero]
      refine (containsFR_ok hsub c0).mono ?_
      rintro r V4 ⟨rfl, rfl⟩
      refine ⟨_, rfl, ?_, rfl⟩
      show _ = !okAt P.T live j
      unfold okAt; rw [not_f hb1, hb2]
      simp
    rcases z with ⟨z, ⟨⟩⟩
    obtain ⟨hz, rfl⟩ := hz
    try simp only at hz
    dsimp only [unc]
    subst hz
    refine br_intro (fun hb1 => ⟨by rw [hst _ rfl (not_t hb1)], hV2⟩) (fun hb1 => ⟨inI64 (by omega) (by omega), ⟨j + 1, by omega, by omega, ?_, hV2⟩, by omega⟩)
    rw [List.range_succ, List.all_append, hall]
    simp [not_f hb1]
  · have hge : j = live.length := by have := of_decide_eq_false hge; omega
    subst hge
    have h1 := h.le hV1
    have e : ((⟨A.p, 0, none⟩ : Addr).add 1).add 3 = (⟨A.p, 0, none⟩ : Addr).add 4 := Addr.add_add _ _ _
    refine ⟨_, rfl, P.g.da, by rw [e]; exact h1.cell 4 rfl, ?_, hV1⟩
    unfold wrongL
    rw [hall, hn]; simp
theorem putT_len' (k s : P2) (l : PL) : (putT k s l).length ≤ l.length + 1 := by
  unfold putT
  split
  · rw [List.length_append]
    have := List.length_filter_le (fun p : P2 × P2 => !decide (p.1 = k)) l
    unfold delP
    simp only [List.length_cons, List.length_nil]; omega
  · omega
/-- Only what is the root, or shall be live, stays. -/
def keepT (root : P2) (live : List Rf) (T : PL) : PL := T.filter fun p => decide (p.1 = root) || decide ((⟨p.1.1, p.1.2⟩ : Rf) ∈ live)
def keepK (root : P2) (live : List Rf) (k : P2) : Bool := decide (k = root) || decide ((⟨k.1, k.2⟩ : Rf) ∈ live)
/-- What is left when the first k of m have been looked at. -/
def cutsT (root : P2) (live : List Rf) (m T : PL) (k : Nat) : PL := T.filter fun p => !((m.take k).any fun q => decide (q.1 = p.1) && !keepK root live q.1)
theorem cutsT_zero (root : P2) (live : List Rf) (m T : PL) : cutsT root live m T 0 = T := by
  unfold cutsT
  rw [List.take_zero]
  exact List.filter_eq_self.2 fun _ _ => rfl
theorem cutsT_keep {root : P2} {live : List Rf} {m T : PL} {k : Nat} (hk : k < m.length) (h : keepK root live m[k].1 = true) : cutsT root live m T (k + 1) = cutsT root live m T k := by
  unfold cutsT
  congr 1
  funext p
  rw [List.take_add_one, List.getElem?_eq_getElem hk, List.any_append]
  simp [h]
theorem cutsT_cut {root : P2} {live : List Rf} {m T : PL} {k : Nat} (hk : k < m.length) (h : keepK root live m[k].1 = false) : cutsT root live m T (k + 1) = delP m[k].1 (cutsT root live m T k) := by
  unfold cutsT delP
  rw [List.filter_filter]
  congr 1
  funext p
  rw [List.take_add_one, List.getElem?_eq_getElem hk, List.any_append]
  simp only [Option.toList_some, List.any_cons, List.any_nil, Bool.or_false, h, Bool.not_false, Bool.and_true]
  by_cases e : m[k].1 = p.1
  · simp [e]
  · have e' : ¬ p.1 = m[k].1 := fun x => e x.symm
    simp [e, e']
theorem cutsT_all {root : P2} {live : List Rf} {m T : PL} (hp : m.Perm T) : cutsT root live m T m.length = keepT root live T := by
  unfold cutsT keepT
  rw [List.take_length]
  refine List.filter_congr fun p hpT => ?_
  have hk : keepK root live p.1 = (decide (p.1 = root) || decide ((⟨p.1.1, p.1.2⟩ : Rf) ∈ live)) := rfl
  rw [← hk]
  cases h : keepK root live p.1 with
  | true =>
    rw [Bool.not_eq_true', Bool.eq_false_iff]
    intro e
    obtain ⟨q, _, hq⟩ := List.any_eq_true.1 e
    rw [Bool.and_eq_true, decide_eq_true_eq] at hq
    rw [hq.1, h] at hq
    cases hq.2
  | false =>
    rw [Bool.not_eq_false']
    exact List.any_eq_true.2 ⟨p, hp.mem_iff.2 hpT, by rw [decide_eq_true rfl, h]; rfl⟩
theorem polSeal_ok {V : View} {O : Nat → Prop} {A : PAd} {C : Chp} {P : Pol} (h : PoolR V O A C P) (hq : Quiet C) (hs : 0 ≤ P.g.sp) (hg : P.g.pg = C.pages) (hp0 : 1 ≤ C.pages) (ho : P.opn = -1 ∨ ∃ k : Nat, P.opn = k ∧ k < C.bl.length) (hf : ¬ usable C P.opn → floorC P.g 0 < (cleansU (C.bl.map Prod.snd) C.bl.length).length) (hpr : C.progs < 1000000) (hsq : 0 ≤ P.seq ∧ P.seq ≤ 1000000)
    (hT : P.T.length ≤ 100000) {s l : Sl} {d : List UInt8} {live : List Rf} (hd : SlR (V.sans O) s d) (hl : SlR (V.sans O) l live) (hm : MayS 0 (P.seq + 1) d) (hw : wrongL P.T P.g.da live = false) :
    CallV Tryz.prog 51 ⟨[.pointer (some ⟨A.p, 0, none⟩), .slice s.a s.n s.c, .slice l.a l.n l.c]⟩ V fun rr V' => rr = .int .i64 0 ∧ ∃ (i : Nat) (hi : i < C.bl.length), goes C P.opn i ∧ C.bl[i].2.nxt < C.pages ∧ PoolR V' (swapO O A.f ⟨none, 0, 0⟩) { A with f := ⟨none, 0, 0⟩ } (progC C i (laidS 0 (P.seq + 1) d) hi) { P with seq := P.seq + 1, opn := i, T := keepT (0, P.seq + 1) live (putT (0, P.seq + 1) ((i : Int), C.bl[i].2.nxt) P.T), fr := [] } ∧ Wr O V V' ∧ (∀ i, swapO O A.f ⟨none, 0, 0⟩ i → O i ∨ V.see i = none) := by
  refine f51_x ?_
  unfold f51_n
  refine joinP_cut (fun z V' => z.1 = false ∧ V.Le V') ((fits_ok h (hd.mono (sans_le _ _)) (by omega)).mono ?_) (fun z V1 hz => ?_)
  · rintro rr V1 ⟨rfl, hV1⟩
    rw [mayS_iff.2 hm]
    refine ⟨_, rfl, br_intro (fun h0 => by cases h0) (fun _ => (wrongLive_ok (h.le hV1) ((hl.mono (sans_le _ _)).mono hV1)).mono ?_)⟩
    rintro rr V2 ⟨rfl, hV2⟩
    rw [hw]
    exact ⟨_, rfl, rfl, hV1.trans hV2⟩
  rcases z with ⟨z, ⟨⟩⟩
  obtain ⟨hz, hV1⟩ := hz
  try simp only at hz
  dsimp only [unc]
  subst hz
  have h1 := h.le hV1
  refine br_intro (fun h0 => by cases h0) (fun _ => (stops_ok h1 hq hs).mono ?_)
  rintro rr V2 ⟨rfl, hV2⟩
  have h2 := h1.le hV2
  have hV := hV1.trans hV2
  refine ⟨_, rfl, br_intro (fun h0 => by cases h0) (fun _ => ?_)⟩
  refine (begins_ok h2 hq hs hg hp0 ho hf hpr hsq.1 (hd.mono (sans_mono_le hV)) hm).mono ?_
  rintro rr V3 ⟨rfl, i, hi, hgo, hn, h3, w3⟩
  have wV : Wr O V V3 := (Wr.of hV).trans w3
  refine ⟨_, _, _, rfl, fun _ => br_intro (fun h0 => by cases h0) (fun _ => ⟨_, rfl, _, h3.cell 7 rfl, ?_⟩)⟩
  have hTl : (putT (0, P.seq + 1) ((i : Int), C.bl[i].2.nxt) P.T).length ≤ 1000000 := by
    have := putT_len' (0, P.seq + 1) ((i : Int), C.bl[i].2.nxt) P.T; omega
  generalize hT1 : putT (0, P.seq + 1) ((i : Int), C.bl[i].2.nxt) P.T = T1 at *
  refine (all_ok h3.tab hTl).mono ?_
  rintro rr V4 ⟨y, m, rfl, hpm, _, hy, hle4⟩
  have hpm : m.Perm T1 := hpm
  have hV4 : V3.Le V4 := hle4.trans (View.minus_le _ _)
  have h4 := h3.le hV4
  have hyO : ∀ a, y.a = some a → ¬ O a.block := by
    intro a ha hb
    cases hs : V3.see a.block with
    | none => exact h3.seen _ hb hs
    | some o => exact minus_ne' (hle4.see _ _ hs) a ha rfl
  have hys : SlR (V4.sans O) y m := Buf.slS (α := P2 × P2) hy (repL_fl _ m) hyO
  have hyn := hys.n
  have hylim := hys.lim
  refine ⟨y, rfl, ?_⟩
  refine loop1 (k := .int .i64) (fun (jj : Int) V' => ∃ j : Nat, jj = j ∧ j ≤ m.length ∧ PoolR V' O A (progC C i (laidS 0 (P.seq + 1) d) hi) { P with seq := P.seq + 1, opn := i, T := cutsT (0, P.seq + 1) live m T1 j } ∧ Wr O V4 V') (fun (jj : Int) _ => m.length - jj.toNat) ⟨0, rfl, Nat.zero_le _, by rw [cutsT_zero]; exact h4, .refl⟩ ?_
  rintro (jj : Int) V5 ⟨j, rfl, hj, h5, w5⟩
  have wV5 : Wr O V V5 := (wV.trans (.of hV4)).trans w5
  refine br_intro (fun hlt => ?_) (fun hge => ?_)
  · have hlt : j < m.length := by have := of_decide_eq_true hlt; omega
    have hy5 : SlR V5 y m := (hys.mono (w5.sans (O := O) fun _ h => h)).mono (sans_le _ _)
    obtain ⟨ad, hmx, ha, hc⟩ := hy5.fnd (x := (j : Int)) (by omega) (by omega)
    have hg : m[(j : Int).toNat] = m[j] := rfl
    refine ⟨by omega, by omega, ad, ha, _, _, _, _, hc, fun _ => ?_⟩
    rw [hg]
    refine joinP_cut (fun z V' => z.1 = (!keepK (0, P.seq + 1) live m[j].1) ∧ V' = V5) ⟨trivial, br_intro (fun hb => ?_) (fun hb => ⟨?_, rfl⟩)⟩ (fun z V6 hz => ?_)
    · have hne : m[j].1 ≠ (0, P.seq + 1) := by
        intro e
        rw [e] at hb
        simp at hb
      refine (containsR_ok (x := m[j].1) ((hl.mono (wV5.sans (O := O) fun _ h => h)).mono (sans_le _ _))).mono ?_
      rintro rr V6 ⟨rfl, rfl⟩
      refine ⟨_, rfl, ?_, rfl⟩
      show (!decide _) = !keepK _ live m[j].1
      unfold keepK
      rw [decide_eq_false hne, Bool.false_or]
    · show false = !keepK _ live m[j].1
      have he : m[j].1 = (0, P.seq + 1) := by
        simp only [Bool.and_true, Bool.not_eq_false', Bool.and_eq_true, decide_eq_true_eq] at hb
        exact Prod.ext hb.1 hb.2
      unfold keepK
      rw [decide_eq_true he]; rfl
    rcases z with ⟨z, ⟨⟩⟩
    obtain ⟨hz, rfl⟩ := hz
    try simp only at hz
    dsimp only [unc]
    subst hz
    refine joinP_cut (fun _ V' => PoolR V' O A (progC C i (laidS 0 (P.seq + 1) d) hi) { P with seq := P.seq + 1, opn := i, T := cutsT (0, P.seq + 1) live m T1 (j + 1) } ∧ Wr O V4 V') (br_intro (fun hb => ?_) (fun hb => ⟨by rw [cutsT_keep hlt (not_f hb)]; exact h5, w5⟩)) (fun _ V7 hz => ?_)
    · refine ⟨trivial, V6, View.Le.refl _, _, rfl, _, h5.cell 7 rfl, (cut_ok h5.tab m[j].1).mono ?_⟩
      rintro rr V7 ⟨rfl, t7, l7⟩
      obtain ⟨h7, w7⟩ := h5.setTab l7 t7
      exact ⟨_, rfl, by rw [cutsT_cut hlt (not_t hb)]; exact h7, w5.trans w7⟩
    · obtain ⟨h7, w7⟩ := hz
      dsimp only [unc]
      exact ⟨inI64 (by omega) (by omega), ⟨j + 1, by omega, by omega, h7, w7⟩, by omega⟩
  · have hge : j = m.length := by have := of_decide_eq_false hge; omega
    subst hge
    rw [cutsT_all hpm] at h5
    obtain ⟨k1, k2, k3, k4⟩ := h5.setFr (s := ⟨none, 0, 0⟩) (cs := []) (fr := []) (Buf.nil _ _ _) rfl (View.minus_le _ _)
    refine ⟨_, rfl, bxc k1 8 1 (by simp [polL]), ?_⟩
    rw [bxe k1]
    subst hT1
    refine ⟨rfl, i, hi, hgo, hn, k2, wV5.trans k3, fun j hj => ?_⟩
    rcases k4 j hj with e | e
    · exact .inl e
    · refine .inr ?_
      cases hs : V.see j with
      | none => rfl
      | some o =>
        by_cases hO : O j
        · exact absurd e (h5.seen j hO)
        · have := wV5.rest j o hO hs
          rw [e] at this; cases this
theorem seal_ok {V : View} {O : Nat → Prop} {A : PAd} {C : Chp} {P : Pol} (h : PoolR V O A C P) (hq : Quiet C) (hs : 0 ≤ P.g.sp) (hg : P.g.pg = C.pages) (hp0 : 1 ≤ C.pages) (ho : P.opn = -1 ∨ ∃ k : Nat, P.opn = k ∧ k < C.bl.length) (hf : ¬ usable C P.opn → floorC P.g 0 < (cleansU (C.bl.map Prod.snd) C.bl.length).length) (hpr : C.progs < 1000000) (hsq : 0 ≤ P.seq ∧ P.seq ≤ 1000000)
    (hT : P.T.length ≤ 100000) {s l : Sl} {d : List UInt8} {live : List Rf} (hd : SlR (V.sans O) s d) (hl : SlR (V.sans O) l live) (hm : MayS 0 (P.seq + 1) d) (hw : wrongL P.T P.g.da live = false) :
    CallV Tryz.prog 15 ⟨[.pointer (some ⟨A.p, 0, none⟩), .slice s.a s.n s.c, .slice l.a l.n l.c]⟩ V fun rr V' => rr = .int .i64 0 ∧ ∃ (i : Nat) (hi : i < C.bl.length), goes C P.opn i ∧ C.bl[i].2.nxt < C.pages ∧ PoolR V' (swapO O A.f ⟨none, 0, 0⟩) { A with f := ⟨none, 0, 0⟩ } (progC C i (laidS 0 (P.seq + 1) d) hi) { P with seq := P.seq + 1, opn := i, T := keepT (0, P.seq + 1) live (putT (0, P.seq + 1) ((i : Int), C.bl[i].2.nxt) P.T), fr := [] } ∧ Wr O V V' ∧ (∀ i, swapO O A.f ⟨none, 0, 0⟩ i → O i ∨ V.see i = none) := by
  refine f15_x ?_
  unfold f15_n
  refine br_intro (fun h0 => by cases h0) (fun _ => (polSeal_ok h hq hs hg hp0 ho hf hpr hsq hT hd hl hm hw).mono ?_)
  rintro rr V1 ⟨rfl, hx⟩
  exact ⟨_, rfl, joinP_cut (fun _ V' => V' = V1) (br_intro (fun h0 => by cases h0) (fun _ => rfl)) (fun _ V' hV => by obtain rfl := hV; exact ⟨rfl, hx⟩)⟩
theorem rdN_suf {b r : List UInt8} {most : Nat} (h : (rdN (some b) most).2 = some r) : r <:+ b := by
  unfold rdN at h
  simp only at h
  cases hn : numP most b with
  | none => rw [hn] at h; cases h
  | some q =>
    obtain ⟨n, r'⟩ := q
    rw [hn] at h
    obtain ⟨k, _, _, e⟩ := numP_len hn
    cases h
    rw [e]; exact List.drop_suffix _ _
theorem rdT_suf {b r : List UInt8} {most : Nat} (h : (rdT (some b) most).2 = some r) : r <:+ b := by
  unfold rdT textP at h
  simp only at h
  cases hn : numP most b with
  | none => rw [hn] at h; cases h
  | some q =>
    obtain ⟨n, r'⟩ := q
    rw [hn] at h
    obtain ⟨k, _, _, e⟩ := numP_len hn
    simp only at h
    split at h
    · cases h
    · rename_i t r2 hx
      cases h
      split at hx
      · cases hx
      · cases hx
        rw [e]
        exact (List.drop_suffix _ _).trans (List.drop_suffix _ _)
theorem parseS_end {b : List UInt8} {x y z : List UInt8} (h1 : (rdN (some b) 60).2 = some x) (h2 : (rdN (some x) 1099511627776).2 = some y) (h3 : (rdT (some y) 2000).2 = some z) : z <:+ b :=
  ((rdT_suf h3).trans (rdN_suf h2)).trans (rdN_suf h1)
theorem rdN_none (most : Nat) : (rdN none most) = (0, none) := rfl
theorem rdT_none (most : Nat) : (rdT none most) = ([], none) := rfl
theorem parse_ok {V : View} {s : Sl} {b : List UInt8} (h : SlR V s b) (hl : b.length ≤ 2000) : CallV Tryz.prog 46 ⟨[.slice s.a s.n s.c]⟩ V fun r V' => V.Le V' ∧ match parseS b with
    | some (p, q, d) => ∃ y : Sl, r = .tuple ⟨[.agg ⟨[.int .i64 p, .int .i64 q, .slice y.a y.n y.c]⟩, .int .i64 0]⟩ ∧ SlR V' y d
    | none => r = .tuple ⟨[.agg ⟨[.int .i64 0, .int .i64 0, .slice none 0 0]⟩, .int .i64 5]⟩ := by
  refine f46_x ?_
  unfold f46_n
  intro _
  have hn := h.n
  refine (newReader_ok h (by omega)).mono ?_
  rintro r V1 ⟨p, rfl, hR1, hV1⟩
  refine ⟨_, rfl, (rdNumber_ok hR1 (most := 60) (by decide)).mono ?_⟩
  rintro r V2 ⟨rfl, hR2, hV2⟩
  have hV2 := hV1.trans hV2
  refine ⟨_, rfl, (rdNumber_ok hR2 (most := 1099511627776) (by decide)).mono ?_⟩
  rintro r V3 ⟨rfl, hR3, hV3⟩
  have hV3 := hV2.trans hV3
  refine ⟨_, rfl, fun _ => (rdText_ok hR3 (most := 2000) (by decide)).mono ?_⟩
  rintro r V4 ⟨y, rfl, hy, hR4, hV4⟩
  have hV4 := hV3.trans hV4
  have q4 : V.Le V4 := hV4.trans (View.hide_le _ _)
  have hy4 : SlR V4 y (rdT (rdN (rdN (some b) 60).2 1099511627776).2 2000).1 := hy.mono (View.hide_le _ _)
  refine ⟨y, rfl, joinP_cut (fun z V' => z.1 = (parseS b).isNone ∧ V4.Le V') ?_ (fun z V' hz => ?_)⟩
  · refine (err_ok hR4).mono ?_
    rintro r V5 ⟨rfl, rfl⟩
    refine ⟨_, rfl, br_intro (fun he => ⟨?_, View.Le.refl _⟩) (fun he => ?_)⟩
    · show true = _
      cases hs : (rdT (rdN (rdN (some b) 60).2 1099511627776).2 2000).2 with
      | some z => rw [hs] at he; simp at he
      | none =>
        unfold parseS
        simp only [hs]
        rw [if_neg (by simp)]; rfl
    · cases hs : (rdT (rdN (rdN (some b) 60).2 1099511627776).2 2000).2 with
      | none => rw [hs] at he; simp at he
      | some z =>
        rw [hs] at hR4
        refine (left_ok hR4).mono ?_
        rintro r V6 ⟨rfl, rfl⟩
        have hsuf : z <:+ b := by
          cases h1 : (rdN (some b) 60).2 with
          | none => rw [h1, rdN_none, rdT_none] at hs; cases hs
          | some x1 =>
            rw [h1] at hs
            cases h2 : (rdN (some x1) 1099511627776).2 with
            | none => rw [h2, rdT_none] at hs; cases hs
            | some x2 => rw [h2] at hs; exact parseS_end h1 h2 hs
        refine ⟨_, rfl, br_intro (fun h1 => ⟨?_, View.Le.refl _⟩) (fun h1 => ?_)⟩
        · show true = _
          unfold parseS
          simp only [hs]
          rw [if_neg]
          · rfl
          · rintro ⟨e, _⟩
            cases e
            simp at h1
        · have h1 : z.length = 1 := by
            have : (z.length : Int) = 1 := by simpa using h1
            omega
          obtain ⟨c, rfl⟩ := List.length_eq_one_iff.1 h1
          obtain ⟨pre, hpre⟩ := hsuf
          have hbl : b.length = pre.length + 1 := by rw [← hpre]; simp
          obtain ⟨ad, hx, ha, hc⟩ := (h.mono q4).u8 (x := (s.n : Int) - 1) (by omega) (by omega)
          have hcc : b[((s.n : Int) - 1).toNat] = c := by
            have e : ((s.n : Int) - 1).toNat = pre.length := by omega
            have : b[((s.n : Int) - 1).toNat]? = some c := by rw [e, ← hpre]; simp
            rw [List.getElem?_eq_getElem hx] at this
            exact Option.some.inj this
          rw [hcc] at hc
          refine ⟨inI64 (by omega) (by omega), by omega, by omega, ad, ha, _, hc, br_intro (fun h2 => ⟨?_, View.Le.refl _⟩) (fun h2 => ?_)⟩
          · show true = _
            unfold parseS
            simp only [hs]
            rw [if_neg]
            · rfl
            · rintro ⟨e, _⟩
              cases e
              simp at h2
          · have h2 : c = 90 := by
              have : (c.toNat : Int) = 90 := by simpa using h2
              exact UInt8.toNat_inj.1 (by show c.toNat = 90; omega)
            subst h2
            refine (sheetMay_ok hy4).mono ?_
            rintro r V7 ⟨rfl, hV7⟩
            refine ⟨_, rfl, ?_, hV7⟩
            show (!mayS _ _ _) = _
            unfold parseS
            simp only [hs]
            cases hm : mayS (rdN (some b) 60).1 (rdN (rdN (some b) 60).2 1099511627776).1 (rdT (rdN (rdN (some b) 60).2 1099511627776).2 2000).1 with
            | true => rw [if_pos ⟨trivial, rfl⟩]; rfl
            | false => rw [if_neg (by simp)]; rfl
  · rcases z with ⟨z, ⟨⟩⟩
    obtain ⟨hz, hV5⟩ := hz
    try simp only at hz
    dsimp only [unc]
    subst hz
    refine br_intro (fun hb => ⟨q4.trans hV5, ?_⟩) (fun hb => ⟨q4.trans hV5, ?_⟩)
    · cases hp : parseS b with
      | none => rfl
      | some q => rw [hp] at hb; cases hb
    · cases hp : parseS b with
      | none => rw [hp] at hb; cases hb
      | some q =>
        unfold parseS at hp
        simp only at hp
        split at hp
        · cases hp
          exact ⟨y, rfl, hy4.mono hV5⟩
        · cases hp
end Go.Proofs.YtgkmcnafkhdlnaaGreat
