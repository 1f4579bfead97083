/- Texts joined: Data, DirLaw, NodeOk, Grow, NamesOk, BelowLaw, BelowOk, MapLaw, ApartOk, DirOk, Num, BytesOk, ReadOk, ReadNOk, RootLaw, RootOk, EqOk, RefsOk, AwakeOk, ReachLaw, ReachOk, FindOk, NameOk, RefOk, RefMayOk, TreeLaw, WalkLaw, WalksLaw, Set, BitsLaw, Ref3Ok, Put3Ok, WalkOk, BackLaw, RootCutOk, Dir1Ok, Dir2Ok. -/
import Derived.Test.YtdlgpolngnkiaaaDoorPk1
import Derived.Test.YtdlgpolngnkiaaaDoorPk2
import Derived.KernelRfl
import Derived.Test.YtdlgpolngnkiaaaDoorCore
/- Trees as plain data; how they lie in a view, and in what comes in. -/
namespace Go.Proofs.YtdlgpolngnkiaaaDoor
open Go
structure Ent where
  name : ByteArray
  node : Int
  deriving DecidableEq
structure Nod where
  kind : Int
  links : Int
  size : Int
  seqs : List Int
  ents : List Ent
  deriving DecidableEq
abbrev Tre := List Nod
def Nod.zero : Nod := ⟨0, 0, 0, [], []⟩
instance : Inhabited Ent := ⟨⟨⟨#[]⟩, 0⟩⟩
instance : Inhabited Nod := ⟨Nod.zero⟩
structure Rf where
  page : Int
  seq : Int
  deriving DecidableEq
instance : Rep Ent where
  sz := 2
  pos := by decide
  rep _ vs x := vs = [.string x.name, .int .i64 x.node] ∧ x.name.size ≤ 9223372036854775807 ∧ inI .i64 x.node
  len h := by rw [h.1]; rfl
  one h := by rw [h.1]; rfl
  mono _ h := h
instance : Rep Rf where
  sz := 2
  pos := by decide
  rep _ vs x := vs = [.int .i64 x.page, .int .i64 x.seq] ∧ inI .i64 x.page ∧ inI .i64 x.seq
  len h := by rw [h.1]; rfl
  one h := by rw [h.1]; rfl
  mono _ h := h
instance : Rep Nod where
  sz := 5
  pos := by decide
  rep V vs x := ∃ s e : Sl, vs = [.int .i64 x.kind, .int .i64 x.links, .int .i64 x.size, .slice s.a s.n s.c, .slice e.a e.n e.c] ∧ inI .i64 x.kind ∧ inI .i64 x.links ∧ inI .i64 x.size ∧ SlR V s x.seqs ∧ SlR V e x.ents
  len h := by obtain ⟨s, e, h, _⟩ := h; rw [h]; rfl
  one h := by obtain ⟨s, e, h, _⟩ := h; rw [h]; rfl
  mono hV h := let ⟨s, e, h, a, b, c, d, f⟩ := h; ⟨s, e, h, a, b, c, d.mono hV, f.mono hV⟩
theorem SlR.ent {V : View} {s : Sl} {l : List Ent} (h : SlR V s l) {x : Int} (h0 : 0 ≤ x) (h1 : x < s.n) :
    ∃ ad, ∃ hx : x.toNat < l.length, s.a = some ad ∧ cellsAt V (ad.add (x.toNat * 2)) [.string l[x.toNat].name, .int .i64 l[x.toNat].node] ∧ l[x.toNat].name.size ≤ 9223372036854775807 ∧ inI .i64 l[x.toNat].node := by
  obtain ⟨ad, vs, hx, ha, hc, rfl, hi⟩ := h.ld h0 h1
  exact ⟨ad, hx, ha, hc, hi⟩
theorem SlR.rf {V : View} {s : Sl} {l : List Rf} (h : SlR V s l) {x : Int} (h0 : 0 ≤ x) (h1 : x < s.n) :
    ∃ ad, ∃ hx : x.toNat < l.length, s.a = some ad ∧ cellsAt V (ad.add (x.toNat * 2)) [.int .i64 l[x.toNat].page, .int .i64 l[x.toNat].seq] ∧ inI .i64 l[x.toNat].page ∧ inI .i64 l[x.toNat].seq := by
  obtain ⟨ad, vs, hx, ha, hc, rfl, hi⟩ := h.ld h0 h1
  exact ⟨ad, hx, ha, hc, hi⟩
/-- A node's cells: two rows besides three numbers. -/
structure NodR (V : View) (s e : Sl) (x : Nod) : Prop where
  kind : inI .i64 x.kind
  links : inI .i64 x.links
  size : inI .i64 x.size
  seqs : SlR V s x.seqs
  ents : SlR V e x.ents
theorem NodR.mono {V V' : View} {s e : Sl} {x : Nod} (hV : V.Le V') (h : NodR V s e x) : NodR V' s e x := ⟨h.kind, h.links, h.size, h.seqs.mono hV, h.ents.mono hV⟩
theorem NodR.rep {V : View} {s e : Sl} {x : Nod} (h : NodR V s e x) : Rep.rep V [.int .i64 x.kind, .int .i64 x.links, .int .i64 x.size, .slice s.a s.n s.c, .slice e.a e.n e.c] x := ⟨s, e, rfl, h.kind, h.links, h.size, h.seqs, h.ents⟩
theorem SlR.nod {V : View} {s : Sl} {l : List Nod} (h : SlR V s l) {x : Int} (h0 : 0 ≤ x) (h1 : x < s.n) :
    ∃ ad sq en, ∃ hx : x.toNat < l.length, s.a = some ad ∧ cellsAt V (ad.add (x.toNat * 5)) [.int .i64 l[x.toNat].kind, .int .i64 l[x.toNat].links, .int .i64 l[x.toNat].size, .slice sq.a sq.n sq.c, .slice en.a en.n en.c] ∧ NodR V sq en l[x.toNat] := by
  obtain ⟨ad, vs, hx, ha, hc, sq, en, rfl, h1, h2, h3, h4, h5⟩ := h.ld h0 h1
  exact ⟨ad, sq, en, hx, ha, hc, ⟨h1, h2, h3, h4, h5⟩⟩
theorem cellsAt_nth {V : View} {a : Addr} {vs : List Value} (h : cellsAt V a vs) (j : Nat) {v : Value} (hj : vs[j]? = some v) : V.cell? (a.add j) = some v := h j v hj

/-! ### what comes in -/
section
variable {H : Type} {enc : TypeId × Value → H} {P : Program} {w : World} {base : Nat} {sp : Nat → Bool} {held : Bool}
/-- Data of this type that come in are such data. -/
class TrodRep (P : Program) (α : Type) [Rep α] (t : TypeId) : Prop where
  of : ∀ {H : Type} {enc : TypeId × Value → H} {w : World} {base : Nat} {sp : Nat → Bool} {held : Bool} {fuel : Nat} {cs : List Value} {x : DataW H × List MemPlace}, DataW.trod enc P w base sp held fuel t cs = some x → ∃ d : α, Rep.rep (View.all w) cs d
theorem wf_int {k : IntKind} {n : Int} (h : (Lit.int k n).wf = true) : inI k n := by
  simpa [Lit.wf, inI] using h
theorem trodRep_int {t : TypeId} (ht : P.underlying t = some (.int .i64)) : TrodRep P Int t := ⟨fun h => by
  obtain ⟨n, hc, _, hw⟩ := DataW.trod_int ht h
  exact ⟨n, hc, wf_int hw⟩⟩
theorem trodRep_u8 {t : TypeId} (ht : P.underlying t = some (.int .u8)) : TrodRep P UInt8 t := ⟨fun h => by
  obtain ⟨n, hc, _, hw⟩ := DataW.trod_int ht h
  have h2 : 0 ≤ n ∧ n ≤ 255 := by simpa [Lit.wf, IntKind.min, IntKind.max, IntKind.signed, IntKind.bits] using hw
  refine ⟨UInt8.ofNat n.toNat, ?_⟩
  show _ = [Value.int .u8 (UInt8.ofNat n.toNat).toNat]
  rw [hc, UInt8.toNat_ofNat']
  congr 2
  omega⟩
theorem trodRep_string {t : TypeId} (ht : P.underlying t = some .string) : TrodRep P ByteArray t := ⟨fun h => by
  obtain ⟨s, hc, _, hw⟩ := DataW.trod_string ht h
  exact ⟨s, hc, hw⟩⟩
theorem cells_all {w : World} {b : Nat} {a : Addr} {n : Nat} {cs : List Value} (h : w.cells? b a n = some cs) : cs.length = n ∧ cellsAt (View.all w) a cs := by
  obtain ⟨_, hl, hc⟩ := World.cells?_some h
  refine ⟨hl, fun j v hj => ?_⟩
  have hjn : j < n := by rw [← hl]; exact (List.getElem?_eq_some_iff.1 hj).1
  have := hc j hjn
  rw [hj] at this
  exact this
theorem trodRep_slice {α : Type} [Rep α] {t e : TypeId} (ht : P.underlying t = some (.slice e)) (hs : P.cellsOf e = Rep.sz α) (he : TrodRep P α e) : TrodRep P (List α) t := ⟨fun {H enc w base sp held fuel cs x} h => by
  rcases DataW.trod_slice ht h with ⟨rfl, _⟩ | ⟨a, len, cap, elems, rest, n, _, rfl, _, _, hlc, hcm, hel, hget, _, _⟩
  · exact ⟨[], ⟨none, 0, 0⟩, rfl, SlR.nil _ _ _⟩
  have hex : ∀ i : Fin len, ∃ d : α, ∃ vs, cellsAt (View.all w) (a.add (i.val * Rep.sz α)) vs ∧ Rep.rep (View.all w) vs d := by
    intro i
    have := hget i.val i.isLt
    rw [List.getElem?_eq_getElem (by rw [hel]; exact i.isLt), Option.bind_eq_some_iff] at this
    obtain ⟨cs, hc, hy⟩ := this
    obtain ⟨d, hd⟩ := he.of hy
    rw [hs] at hc
    exact ⟨d, cs, (cells_all hc).2, hd⟩
  refine ⟨List.ofFn fun i => Classical.choose (hex i), ⟨some a, len, cap⟩, rfl, by simp, hlc, ?_, fun i hi => ?_⟩
  · have : cap ≤ 9223372036854775807 := hcm
    show len ≤ _; omega
  · have hi' : i < len := by simpa using hi
    obtain ⟨vs, h1, h2⟩ := Classical.choose_spec (hex ⟨i, hi'⟩)
    exact ⟨a, vs, rfl, h1, by rw [List.getElem_ofFn]; exact h2⟩⟩
theorem trod_field {t : TypeId} {i o : Nat} {ft : TypeId} {fuel : Nat} {cs : List Value} {x : DataW H × List MemPlace} (hf : fieldX P t i = some (o, ft)) (h : DataW.trod enc P w base sp held fuel t cs = some x) :
    cs.length = P.cellsOf t ∧ ∃ n y, DataW.trod enc P w base sp held n ft ((cs.drop o).take (P.cellsOf ft)) = some y := by
  obtain ⟨fs, fd, hu, hfd, rfl, rfl⟩ := fieldX_spec hf
  obtain ⟨xs, n, _, _, hl, hxl, hget⟩ := DataW.trod_struct hu h
  have := hget i fd hfd
  have hi : i < xs.length := by rw [hxl]; exact (Array.getElem?_eq_some_iff.1 hfd).1
  rw [List.getElem?_eq_getElem hi] at this
  exact ⟨hl, n, _, this⟩
theorem trodRep_ent {t ts ti : TypeId} (h0 : fieldX P t 0 = some (0, ts)) (h1 : fieldX P t 1 = some (1, ti)) (hc : P.cellsOf t = 2) (hcs : P.cellsOf ts = 1) (hci : P.cellsOf ti = 1)
    (hs : P.underlying ts = some .string) (hi : P.underlying ti = some (.int .i64)) : TrodRep P Ent t := ⟨fun {H enc w base sp held fuel cs x} h => by
  obtain ⟨hl, n0, y0, g0⟩ := trod_field h0 h
  obtain ⟨_, n1, y1, g1⟩ := trod_field h1 h
  rw [hc] at hl
  match cs, hl with
  | [a, b], _ =>
    rw [hcs] at g0; rw [hci] at g1
    obtain ⟨s, e0, w0⟩ := (trodRep_string hs).of g0
    obtain ⟨m, e1, w1⟩ := (trodRep_int hi).of g1
    simp at e0 e1
    exact ⟨⟨s, m⟩, by rw [e0, e1], w0, w1⟩⟩
theorem trodRep_nod {t ti tq te : TypeId} (h0 : fieldX P t 0 = some (0, ti)) (h1 : fieldX P t 1 = some (1, ti)) (h2 : fieldX P t 2 = some (2, ti)) (h3 : fieldX P t 3 = some (3, tq)) (h4 : fieldX P t 4 = some (4, te))
    (hc : P.cellsOf t = 5) (hci : P.cellsOf ti = 1) (hcq : P.cellsOf tq = 1) (hce : P.cellsOf te = 1) (hi : P.underlying ti = some (.int .i64)) (hq : TrodRep P (List Int) tq) (he : TrodRep P (List Ent) te) : TrodRep P Nod t := ⟨fun {H enc w base sp held fuel cs x} h => by
  obtain ⟨hl, n0, y0, g0⟩ := trod_field h0 h
  obtain ⟨_, n1, y1, g1⟩ := trod_field h1 h
  obtain ⟨_, n2, y2, g2⟩ := trod_field h2 h
  obtain ⟨_, n3, y3, g3⟩ := trod_field h3 h
  obtain ⟨_, n4, y4, g4⟩ := trod_field h4 h
  rw [hc] at hl
  match cs, hl with
  | [a, b, c, d, e], _ =>
    rw [hci] at g0 g1 g2
    rw [hcq] at g3
    rw [hce] at g4
    obtain ⟨m0, e0, w0⟩ := (trodRep_int hi).of g0
    obtain ⟨m1, e1, w1⟩ := (trodRep_int hi).of g1
    obtain ⟨m2, e2, w2⟩ := (trodRep_int hi).of g2
    obtain ⟨l3, s3, e3, w3⟩ := hq.of g3
    obtain ⟨l4, s4, e4, w4⟩ := he.of g4
    simp at e0 e1 e2 e3 e4
    exact ⟨⟨m0, m1, m2, l3, l4⟩, s3, s4, by rw [e0, e1, e2, e3, e4], w0, w1, w2, w3, w4⟩⟩
end
/-! ### this program's types -/
theorem bytesIn : TrodRep Tryd.prog (List UInt8) 42 := trodRep_slice (e := 5) Tryd.underlying42 (by kernel_rfl) (trodRep_u8 Tryd.underlying5)
theorem entIn : TrodRep Tryd.prog Ent 62 := trodRep_ent (ts := 9) (ti := 3) (by kernel_rfl) (by kernel_rfl) (by kernel_rfl) (by kernel_rfl) (by kernel_rfl) Tryd.underlying9 Tryd.underlying3
theorem intsIn : TrodRep Tryd.prog (List Int) 34 := trodRep_slice (e := 3) Tryd.underlying34 (by kernel_rfl) (trodRep_int Tryd.underlying3)
theorem entsIn : TrodRep Tryd.prog (List Ent) 35 := trodRep_slice (e := 62) Tryd.underlying35 (by kernel_rfl) entIn
theorem nodIn : TrodRep Tryd.prog Nod 37 := trodRep_nod (ti := 3) (tq := 34) (te := 35) (by kernel_rfl) (by kernel_rfl) (by kernel_rfl) (by kernel_rfl) (by kernel_rfl) (by kernel_rfl) (by kernel_rfl) (by kernel_rfl) (by kernel_rfl) Tryd.underlying3 intsIn entsIn
theorem nodsIn : TrodRep Tryd.prog (List Nod) 22 := trodRep_slice (e := 37) Tryd.underlying22 (by kernel_rfl) nodIn
end Go.Proofs.YtdlgpolngnkiaaaDoor

/- Trees that may be: plain functions. No program in this text. -/
namespace Go.Proofs.YtdlgpolngnkiaaaDoor
open Go
theorem getD_at {α : Type} [Inhabited α] {l : List α} {i : Nat} (h : i < l.length) : l.getD i default = l[i] := by
  rw [List.getD_eq_getElem?_getD, List.getElem?_eq_getElem h]; rfl
theorem getD_at0 {l : List Int} {i : Nat} (h : i < l.length) : l.getD i 0 = l[i] := by
  rw [List.getD_eq_getElem?_getD, List.getElem?_eq_getElem h]; rfl
def soleE (x : Ent) : Bool := mayB x.name && decide (1 ≤ x.node) && decide (x.node < 12)
def okE (l : List Ent) (i : Nat) : Bool := soleE (l.getD i default) && (decide (i = 0) || sLess (l.getD (i - 1) default).name (l.getD i default).name)
/-- May a directory's entries be? -/
def mayL (l : List Ent) : Bool := (List.range l.length).all (okE l) && decide (l.length ≤ 10)
def within (n m : Int) : Bool := decide (0 ≤ n) && decide (n ≤ m)
def okS (size : Int) (l : List Int) (i : Nat) : Bool := within (l.getD i 0) 1099511627776 && !(decide (size ≤ i * 16) && !decide (l.getD i 0 = 0))
def fileB (n : Nod) : Bool := within n.links 120 && within n.size 80 && decide (n.seqs.length = 5) && decide (n.ents.length = 0) && (List.range n.seqs.length).all (okS n.size n.seqs)
/-- May a node be? -/
def mayN (n : Nod) : Bool :=
  if n.kind = 0 then decide (n.links = 0) && decide (n.size = 0) && decide (n.seqs.length = 0) && decide (n.ents.length = 0)
  else if n.kind = 1 then fileB n
  else if n.kind = 2 then decide (n.links = 1) && decide (n.size = 0) && decide (n.seqs.length = 0) && mayL n.ents
  else false
/-- How many entries name each node. -/
def cnt (n : Nat) (es : List Ent) : List Int := (List.range n).map fun (j : Nat) => ((es.countP (fun (x : Ent) => decide (x.node = (j : Int))) : Nat) : Int)
def allE (t : Tre) : List Ent := t.flatMap Nod.ents
/-- Which nodes one comes to. -/
inductive Reach (t : Tre) (a : Nat) : Nat → Prop where
  | refl : Reach t a a
  | step {i : Nat} {x : Ent} (h : Reach t a i) (hx : x ∈ (t.getD i default).ents) : Reach t a x.node.toNat
open Classical in
noncomputable def metB (t : Tre) (a j : Nat) : Bool := decide (Reach t a j)
theorem metB_iff {t : Tre} {a j : Nat} : metB t a j = true ↔ Reach t a j := by simp [metB]
def hangB (n : Nod) (i named : Int) (met : Bool) : Bool :=
  if n.kind = 2 then met && (decide (i = 0) || decide (named = 1)) else if n.kind = 1 then decide (n.links = named) else decide (named = 0)
/-- Does no writing stand twice? -/
def apartL (l : List Int) : Bool := decide ((l.filter fun s => decide (s ≠ 0)).Nodup)
def allS (t : Tre) : List Int := t.flatMap Nod.seqs
/-- May a tree be? -/
noncomputable def mayT (t : Tre) : Bool :=
  decide (t.length = 12) && t.all mayN && decide ((t.getD 0 default).kind = 2) && (List.range 12).all (fun i => hangB (t.getD i default) i ((cnt 12 (allE t)).getD i 0) (metB t 0 i)) && apartL (allS t)
theorem mayL_len {l : List Ent} (h : mayL l = true) : l.length ≤ 10 := by
  unfold mayL at h; simp at h; exact h.2
theorem mayL_node {l : List Ent} (h : mayL l = true) {x : Ent} (hx : x ∈ l) : 1 ≤ x.node ∧ x.node < 12 ∧ mayB x.name = true := by
  unfold mayL at h
  simp only [Bool.and_eq_true, List.all_eq_true, List.mem_range] at h
  obtain ⟨i, hi, rfl⟩ := List.getElem_of_mem hx
  have := h.1 i hi
  unfold okE soleE at this
  rw [List.getD_eq_getElem?_getD, List.getElem?_eq_getElem hi] at this
  simp at this
  exact ⟨this.1.1.2, this.1.2, this.1.1.1⟩
theorem mayN_ents {n : Nod} (h : mayN n = true) : mayL n.ents = true := by
  have nil : n.ents.length = 0 → mayL n.ents = true := fun h => by
    rw [List.length_eq_zero_iff] at h
    rw [h]; rfl
  unfold mayN at h
  split at h
  · simp at h; exact nil (by simp [h])
  · split at h
    · unfold fileB at h; simp at h; exact nil (by simp [h])
    · split at h
      · simp at h; exact h.2
      · cases h
end Go.Proofs.YtdlgpolngnkiaaaDoor

/- Contracts of what tells whether nodes may be. -/
namespace Go.Proofs.YtdlgpolngnkiaaaDoor
open Go
theorem dec_not {p q : Prop} [Decidable p] [Decidable q] (h : p ↔ ¬ q) : decide p = !decide q := by
  by_cases hq : q <;> simp [h, hq]
theorem not_t {b : Bool} (h : (!b) = true) : b = false := by cases b <;> simp_all
theorem not_f {b : Bool} (h : (!b) = false) : b = true := by cases b <;> simp_all
theorem SlR.entN {V : View} {s : Sl} {l : List Ent} (h : SlR V s l) {i : Nat} (hi : i < l.length) :
    ∃ ad, s.a = some ad ∧ cellsAt V (ad.add (i * 2)) [.string (l.getD i default).name, .int .i64 (l.getD i default).node] ∧ (l.getD i default).name.size ≤ 9223372036854775807 ∧ inI .i64 (l.getD i default).node := by
  obtain ⟨ad, hx, ha, hc, h1, h2⟩ := h.ent (x := (i : Int)) (by omega) (by have := h.n; omega)
  rw [getD_at hi]
  exact ⟨ad, ha, hc, h1, h2⟩
theorem SlR.intN {V : View} {s : Sl} {l : List Int} (h : SlR V s l) {i : Nat} (hi : i < l.length) :
    ∃ ad, s.a = some ad ∧ V.cell? (ad.add (i * 1)) = some (.int .i64 (l.getD i 0)) ∧ inI .i64 (l.getD i 0) := by
  obtain ⟨ad, hx, ha, hc, h1⟩ := h.int (x := (i : Int)) (by omega) (by have := h.n; omega)
  rw [getD_at0 hi]
  exact ⟨ad, ha, hc, h1⟩
theorem SlR.nodN {V : View} {s : Sl} {l : List Nod} (h : SlR V s l) {i : Nat} (hi : i < l.length) :
    ∃ ad sq en, s.a = some ad ∧ cellsAt V (ad.add (i * 5)) [.int .i64 (l.getD i default).kind, .int .i64 (l.getD i default).links, .int .i64 (l.getD i default).size, .slice sq.a sq.n sq.c, .slice en.a en.n en.c] ∧ NodR V sq en (l.getD i default) := by
  obtain ⟨ad, sq, en, hx, ha, hc, h1⟩ := h.nod (x := (i : Int)) (by omega) (by have := h.n; omega)
  rw [getD_at hi]
  exact ⟨ad, sq, en, ha, hc, h1⟩
theorem all_step {P : Nat → Bool} {i : Nat} (h : (List.range i).all P = true) (hp : P i = true) : (List.range (i + 1)).all P = true := by
  rw [List.range_succ, List.all_append, h]; simp [hp]
theorem all_stop {P : Nat → Bool} {i n : Nat} (h : i < n) (hp : P i = false) : (List.range n).all P = false := by
  rw [List.all_eq_false]
  exact ⟨i, List.mem_range.2 h, by simp [hp]⟩
/-- A node as an argument. -/
def nodV (n : Nod) (s e : Sl) : Value := .agg ⟨[.int .i64 n.kind, .int .i64 n.links, .int .i64 n.size, .slice s.a s.n s.c, .slice e.a e.n e.c]⟩
def entV (x : Ent) : Value := .agg ⟨[.string x.name, .int .i64 x.node]⟩
def treV (s : Sl) : Value := .agg ⟨[.slice s.a s.n s.c]⟩
theorem within_ok {a b : Int} {V : View} : CallV Tryd.prog 80 ⟨[.int .i64 a, .int .i64 b]⟩ V fun r V' => r = .bool (within a b) ∧ V' = V := by
  refine f80_x ?_
  unfold f80_n
  refine ⟨?_, rfl⟩
  unfold within
  cases decide (0 ≤ a) <;> rfl
theorem sole_ok {x : Ent} {V : View} (hx : x.name.size ≤ 9223372036854775807) : CallV Tryd.prog 78 ⟨[entV x]⟩ V fun r V' => r = .bool (soleE x) ∧ V' = V := by
  refine f78_x ?_
  unfold f78_n
  refine fun _ => (pathMay_ok hx).mono ?_
  rintro r V' ⟨rfl, rfl⟩
  refine ⟨_, rfl, ?_, rfl⟩
  unfold soleE
  cases mayB x.name <;> cases decide (1 ≤ x.node) <;> rfl
theorem mayL_ok {s : Sl} {l : List Ent} {V : View} (h : SlR V s l) : CallV Tryd.prog 69 ⟨[.slice s.a s.n s.c]⟩ V fun r V' => r = .bool (mayL l) ∧ V' = V := by
  refine f69_x ?_
  unfold f69_n
  have hn := h.n; have hc := h.c; have hm := h.lim
  refine loop1 (k := .int .i64) (fun (x : Int) V' => V' = V ∧ ∃ i : Nat, x = i ∧ i ≤ l.length ∧ (List.range i).all (okE l) = true) (fun (x : Int) _ => s.n - x.toNat) ⟨rfl, 0, rfl, by omega, rfl⟩ ?_
  rintro (x : Int) V' ⟨rfl, i, rfl, hi, hall⟩
  refine br_intro (fun hlt => ?_) (fun hge => ?_)
  · have hlt : i < l.length := by have := of_decide_eq_true hlt; omega
    obtain ⟨ad, ha, hcell, hsz, hin⟩ := h.entN hlt
    refine ⟨by omega, by omega, ad, ha, _, _, hcell, fun _ => ?_⟩
    refine joinP_cut (fun q V1 => q.1 = (!okE l i) ∧ V1 = V') ⟨trivial, V', View.Le.refl _, (sole_ok (x := l.getD i default) hsz).mono ?_⟩ ?_
    · rintro r V1 ⟨rfl, rfl⟩
      refine ⟨_, rfl, View.Le.refl _, V1, View.Le.refl _, View.Le.refl _, br_intro (fun hs => ⟨?_, rfl⟩) (fun hs => br_intro (fun h0 => ?_) (fun h0 => ⟨?_, rfl⟩))⟩
      · have hs : soleE (l.getD i default) = false := by simpa using hs
        unfold okE; rw [hs]; rfl
      · have h0 : 0 < i := by have := of_decide_eq_true h0; omega
        have hs : soleE (l.getD i default) = true := by simpa using hs
        obtain ⟨j, rfl⟩ : ∃ j, i = j + 1 := ⟨i - 1, by omega⟩
        obtain ⟨ad2, ha2, hcell2, _, _⟩ := h.entN (i := j) (by omega)
        have e1 : (((j + 1 : Nat) : Int) - 1).toNat = j := by omega
        refine ⟨inI64 (by omega) (by omega), by omega, by omega, ad2, ha2, (l.getD j default).name, ?_, ?_, rfl⟩
        · rw [e1]; exact cellsAt_nth hcell2 0 rfl
        · unfold okE; rw [hs]; simp
      · have h0 : i = 0 := by have := of_decide_eq_false h0; omega
        have hs : soleE (l.getD i default) = true := by simpa using hs
        unfold okE; rw [hs, h0]; rfl
    · rintro ⟨q, ⟨⟩⟩ V1 ⟨h1, hV⟩
      simp only at h1 hV
      subst h1 hV
      dsimp only [unc]
      refine br_intro (fun hb => ⟨?_, rfl⟩) (fun hb => ⟨inI64 (by omega) (by omega), ⟨rfl, i + 1, by omega, by omega, all_step hall (by simpa using hb)⟩, by omega⟩)
      unfold mayL
      rw [all_stop hlt (by simpa using hb)]; rfl
  · have hge : i = l.length := by have := of_decide_eq_false hge; omega
    subst hge
    refine ⟨?_, rfl⟩
    unfold mayL
    rw [hall, hn, Bool.true_and]
    congr 1
    exact decide_eq_decide.2 (by omega)
theorem fileB_ok {n : Nod} {s e : Sl} {V : View} (h : NodR V s e n) : CallV Tryd.prog 68 ⟨[nodV n s e]⟩ V fun r V' => r = .bool (fileB n) ∧ V' = V := by
  refine f68_x ?_
  unfold f68_n
  have hsn := h.seqs.n; have hen := h.ents.n
  refine fun _ => joinP_cut (fun q V1 => q.1 = !(within n.links 120 && within n.size 80 && decide (n.seqs.length = 5) && decide (n.ents.length = 0)) ∧ V1 = V) (within_ok.mono ?_) ?_
  · rintro r V1 ⟨rfl, rfl⟩
    refine ⟨_, rfl, br_intro (fun h1 => ⟨?_, rfl⟩) (fun h1 => within_ok.mono ?_)⟩
    · have h1 : within n.links 120 = false := by simpa using h1
      rw [h1]; rfl
    · have h1 : within n.links 120 = true := by simpa using h1
      rintro r V2 ⟨rfl, rfl⟩
      refine ⟨_, rfl, ?_, rfl⟩
      rw [h1, hsn, hen]
      have e1 : decide (((n.seqs.length : Nat) : Int) = 5) = decide (n.seqs.length = 5) := decide_eq_decide.2 (by omega)
      have e2 : decide ((0 : Int) < ((n.ents.length : Nat) : Int)) = !decide (n.ents.length = 0) := dec_not (by omega)
      rw [e1, e2]
      cases within n.size 80 <;> cases decide (n.seqs.length = 5) <;> cases decide (n.ents.length = 0) <;> rfl
  · rintro ⟨q, ⟨⟩⟩ V1 ⟨h1, hV⟩
    simp only at h1 hV
    subst h1 hV
    dsimp only [unc]
    refine br_intro (fun hb => ⟨?_, rfl⟩) (fun hb => ?_)
    · have hb : (within n.links 120 && within n.size 80 && decide (n.seqs.length = 5) && decide (n.ents.length = 0)) = false := not_t hb
      unfold fileB; rw [hb]; rfl
    · have hb : (within n.links 120 && within n.size 80 && decide (n.seqs.length = 5) && decide (n.ents.length = 0)) = true := not_f hb
      have h5 : n.seqs.length = 5 := by simp at hb; exact hb.1.2
      refine loop1 (k := .int .i64) (fun (x : Int) V' => V' = V1 ∧ ∃ i : Nat, x = i ∧ i ≤ n.seqs.length ∧ (List.range i).all (okS n.size n.seqs) = true) (fun (x : Int) _ => s.n - x.toNat) ⟨rfl, 0, rfl, by omega, rfl⟩ ?_
      rintro (x : Int) V' ⟨rfl, i, rfl, hi, hall⟩
      refine br_intro (fun hlt => ?_) (fun hge => ?_)
      · have hlt : i < n.seqs.length := by have := of_decide_eq_true hlt; omega
        obtain ⟨ad, ha, hcell, hin⟩ := h.seqs.intN hlt
        refine ⟨by omega, by omega, ad, ha, _, hcell, ?_⟩
        refine joinP_cut (fun q V1 => q.1 = (!okS n.size n.seqs i) ∧ V1 = V') (within_ok.mono ?_) ?_
        · rintro r V2 ⟨rfl, rfl⟩
          refine ⟨_, rfl, br_intro (fun h1 => ⟨?_, rfl⟩) (fun h1 => ⟨inI64 (by omega) (by omega), ?_, rfl⟩)⟩
          · have h1 : within (n.seqs.getD i 0) 1099511627776 = false := by simpa using h1
            unfold okS; rw [h1]; rfl
          · have h1 : within (n.seqs.getD i 0) 1099511627776 = true := by simpa using h1
            unfold okS; rw [h1]
            cases decide (n.size ≤ (i : Int) * 16) <;> cases decide (n.seqs.getD i 0 = 0) <;> rfl
        · rintro ⟨q, ⟨⟩⟩ V2 ⟨h1, hV⟩
          simp only at h1 hV
          subst h1 hV
          dsimp only [unc]
          refine br_intro (fun hq => ⟨?_, rfl⟩) (fun hq => ⟨inI64 (by omega) (by omega), ⟨rfl, i + 1, by omega, by omega, all_step hall (by simpa using hq)⟩, by omega⟩)
          unfold fileB
          rw [all_stop hlt (by simpa using hq), Bool.and_false]
      · have hge : i = n.seqs.length := by have := of_decide_eq_false hge; omega
        subst hge
        refine ⟨?_, rfl⟩
        unfold fileB; rw [hb, hall]; rfl
theorem mayN_ok {n : Nod} {s e : Sl} {V : View} (h : NodR V s e n) : CallV Tryd.prog 50 ⟨[nodV n s e]⟩ V fun r V' => r = .bool (mayN n) ∧ V' = V := by
  refine f50_x ?_
  unfold f50_n
  have hsn := h.seqs.n; have hen := h.ents.n
  have e1 : decide (((s.n : Nat) : Int) = 0) = decide (n.seqs.length = 0) := decide_eq_decide.2 (by omega)
  have e2 : decide (((e.n : Nat) : Int) = 0) = decide (n.ents.length = 0) := decide_eq_decide.2 (by omega)
  rw [e1, e2]
  refine fun _ => br_intro (fun h0 => ⟨?_, rfl⟩) (fun h0 => br_intro (fun h1 => (fileB_ok h).mono ?_) (fun h1 => br_intro (fun h2 => ?_) (fun h2 => ⟨?_, rfl⟩)))
  · have h0 : n.kind = 0 := of_decide_eq_true h0
    unfold mayN; rw [if_pos h0]
    cases decide (n.links = 0) <;> cases decide (n.size = 0) <;> cases decide (n.seqs.length = 0) <;> rfl
  · have h0 : ¬ n.kind = 0 := of_decide_eq_false h0
    have h1 : n.kind = 1 := of_decide_eq_true h1
    rintro r V1 ⟨rfl, rfl⟩
    refine ⟨_, rfl, ?_, rfl⟩
    unfold mayN; rw [if_neg h0, if_pos h1]
  · have h0 : ¬ n.kind = 0 := of_decide_eq_false h0
    have h1 : ¬ n.kind = 1 := of_decide_eq_false h1
    have h2 : n.kind = 2 := of_decide_eq_true h2
    have hm : mayN n = (decide (n.links = 1) && decide (n.size = 0) && decide (n.seqs.length = 0) && mayL n.ents) := by unfold mayN; rw [if_neg h0, if_neg h1, if_pos h2]
    refine joinP_cut (fun q V1 => q.1 = mayN n ∧ V1 = V) (br_intro (fun hb => (mayL_ok h.ents).mono ?_) (fun hb => ⟨?_, rfl⟩)) ?_
    · rintro r V1 ⟨rfl, rfl⟩
      refine ⟨_, rfl, ?_, rfl⟩
      rw [hm]
      cases hA : decide (n.links = 1) <;> cases hB : decide (n.size = 0) <;> cases hC : decide (n.seqs.length = 0) <;> simp_all
    · rw [hm]
      cases hA : decide (n.links = 1) <;> cases hB : decide (n.size = 0) <;> cases hC : decide (n.seqs.length = 0) <;> simp_all
    · rintro ⟨q, ⟨⟩⟩ V1 ⟨h1, hV⟩
      simp only at h1 hV
      subst h1 hV
      exact ⟨rfl, rfl⟩
  · have h0 : ¬ n.kind = 0 := of_decide_eq_false h0
    have h1 : ¬ n.kind = 1 := of_decide_eq_false h1
    have h2 : ¬ n.kind = 2 := of_decide_eq_false h2
    unfold mayN; rw [if_neg h0, if_neg h1, if_neg h2]
end Go.Proofs.YtdlgpolngnkiaaaDoor

/- Rows that grow beside other blocks that are this call's own. -/
namespace Go.Proofs.YtdlgpolngnkiaaaDoor
open Go
theorem hide_mono {V V' : View} (h : V.Le V') (p : Nat) : (V.hide p).Le (V'.hide p) := by
  refine ⟨h.size, fun i o ho => ?_, h.out⟩
  unfold View.hide at *
  simp only at *
  split at ho
  · cases ho
  · rename_i hne; rw [if_neg hne]; exact h.see i o ho
theorem hide_see (V : View) (p i : Nat) : (V.hide p).see i = if i = p then none else V.see i := rfl
theorem hide_minus_see (V : View) (p : Nat) (x : Sl) (i : Nat) : ((V.hide p).minus x).see i = if i = p then none else (V.minus x).see i := by
  unfold View.minus
  split
  · rfl
  · simp only [hide_see]
    split <;> split <;> rfl
theorem minus_hide_le (V : View) (p : Nat) (x : Sl) : ((V.hide p).minus x).Le ((V.minus x).hide p) := by
  refine ⟨by unfold View.minus; split <;> exact Nat.le_refl _, fun i o ho => ?_, by unfold View.minus; split <;> rfl⟩
  rw [hide_minus_see] at ho
  rw [hide_see]; exact ho
theorem hide_minus_le (V : View) (p : Nat) (x : Sl) : ((V.minus x).hide p).Le ((V.hide p).minus x) := by
  refine ⟨by unfold View.minus; split <;> exact Nat.le_refl _, fun i o ho => ?_, by unfold View.minus; split <;> rfl⟩
  rw [hide_minus_see]
  rw [hide_see] at ho; exact ho
/-- A block beside a row of one's own is seen when that row is not. -/
theorem Buf.see_minus {V : View} {p : Nat} {o : Obj} {x : Sl} {e : TypeId} {sz : Nat} {cs : List Value} (h : Buf (V.hide p) x e sz cs) (ho : V.see p = some o) : (V.minus x).see p = some o := by
  unfold View.minus
  rcases h.own with ⟨ha, _⟩ | ⟨b, all, ha, hs, _⟩
  · rw [ha]; exact ho
  · rw [ha, hide_see]
    rw [hide_see] at hs
    split at hs
    · cases hs
    · rename_i hne; rw [if_neg (fun e => hne e.symm)]; exact ho
theorem Buf.hide {V : View} {p : Nat} {o : Obj} {x : Sl} {e : TypeId} {sz : Nat} {cs : List Value} (h : Buf V x e sz cs) (ho : (V.minus x).see p = some o) : Buf (V.hide p) x e sz cs := by
  refine ⟨h.len, h.le, h.lim, ?_⟩
  rcases h.own with h1 | ⟨b, all, ha, hs, h3⟩
  · exact .inl h1
  · refine .inr ⟨b, all, ha, ?_, h3⟩
    rw [hide_see]
    unfold View.minus at ho
    rw [ha, hide_see] at ho
    split at ho
    · cases ho
    · rename_i hne; rw [if_neg (fun e => hne e.symm)]; exact hs
theorem put_minus_le {V : View} {x : Sl} {r : Nat} {o : Obj} (h : V.see r = none) : (V.minus x).Le ((V.put r o).minus x) := minus_mono (View.put_le h) x
theorem Buf.put {V : View} {x : Sl} {e : TypeId} {sz : Nat} {cs : List Value} (h : Buf V x e sz cs) {r : Nat} {o : Obj} (hr : V.see r = none) : Buf (V.put r o) x e sz cs := h.mono (View.put_le hr)
/-- The first ones of a row of one's own. -/
theorem Buf.cut {V : View} {x : Sl} {e : TypeId} {sz : Nat} {cs : List Value} (h : Buf V x e sz cs) {k : Nat} (hk : k ≤ x.n) : Buf V ⟨x.a, k, x.c⟩ e sz (cs.take (k * sz)) := by
  have hle := Nat.mul_le_mul_right sz hk
  refine ⟨by simp only [List.length_take, h.len, Nat.min_eq_left hle], Nat.le_trans hk h.le, Nat.le_trans hk h.lim, ?_⟩
  rcases h.own with h1 | ⟨r, all, h1, h2, h3, h4⟩
  · exact .inl h1
  · refine .inr ⟨r, all, h1, h2, h3, ?_⟩
    rw [← h4, List.take_take, Nat.min_eq_left hle]
/-- What is appended, beside a block of one's own. -/
theorem apV_beside {V V0 : View} {p : Nat} {o : Obj} {e : TypeId} {sz bytes : Nat} {zero : List Value} {x : Sl} {y : Value} {C : Sl → View → Prop} {cs src : List Value} {m : Nat} (hz : zero.length = sz)
    (ho : V.see p = some o) (hb : Buf (V.hide p) x e sz cs) (hle : V0.Le ((V.hide p).minus x)) (hs : srcAt V sz zero y m src) (hl : src.length = m * sz) (h1 : src.all Value.oneCell' = true) (hm : (x.n + m) * bytes ≤ 140737488355328) (hm2 : x.n + m ≤ 140737488355328)
    (hC : ∀ s V', V'.see p = some o → Buf (V'.hide p) s e sz (cs ++ src) → V0.Le ((V'.hide p).minus s) → s.n = x.n + m → C s V') : apV V e sz bytes zero x y C := by
  refine apV_buf hz (hb.mono (View.hide_le V p)) hs hl h1 hm hm2 fun s V' hb' hn hle' => ?_
  have h2 := hle'.see _ _ (hb.see_minus ho)
  refine hC s V' ((View.minus_le V' s).see _ _ h2) (hb'.hide h2) ?_ hn
  exact hle.trans ((minus_hide_le V p x).trans ((hide_mono hle' p).trans (hide_minus_le V' p s)))
/-- A call that needs nothing of a row of one's own leaves it as it was. -/
theorem CallV.besideB {P : Program} {f : FuncId} {args : Array Value} {V : View} {x : Sl} {e : TypeId} {sz : Nat} {cs : List Value} {K : Value → View → Prop} (h : CallV P f args (V.minus x) K) (hb : Buf V x e sz cs) :
    CallV P f args V fun r V' => ∃ U', K r U' ∧ U'.Le (V'.minus x) ∧ Buf V' x e sz cs := by
  rcases hb.own with ⟨ha, hc⟩ | ⟨b, all, ha, hs, h3⟩
  · have e1 : V.minus x = V := by unfold View.minus; rw [ha]
    rw [e1] at h
    refine h.mono fun r V' hk => ⟨V', hk, ?_, ⟨hb.len, hb.le, hb.lim, .inl ⟨ha, hc⟩⟩⟩
    unfold View.minus; rw [ha]; exact View.Le.refl _
  · have e1 : V.minus x = V.hide b := by unfold View.minus; rw [ha]
    rw [e1] at h
    refine (CallV.frame (View.hide_le V b) h).mono ?_
    rintro r V' ⟨U', hk, hle, hrest⟩
    have hp : (V.hide b).see b = none := by simp [View.hide]
    obtain ⟨h4, h5⟩ := hrest b _ hp hs
    refine ⟨U', hk, ?_, ⟨hb.len, hb.le, hb.lim, .inr ⟨b, all, ha, h4, h3⟩⟩⟩
    have e2 : V'.minus x = V'.hide b := by unfold View.minus; rw [ha]
    rw [e2]
    refine ⟨hle.size, fun i o ho => ?_, hle.out⟩
    have hne : i ≠ b := fun e => by rw [e, h5] at ho; cases ho
    rw [hide_see, if_neg hne]; exact hle.see i o ho
theorem Buf.n_eq {α : Type} [Rep α] {W V : View} {x : Sl} {e : TypeId} {cs : List Value} {l : List α} (h : Buf V x e (Rep.sz α) cs) (hr : repL W cs l) : x.n = l.length :=
  Nat.eq_of_mul_eq_mul_right (Rep.pos (α := α)) (h.len.symm.trans hr.len)
/-- The cells of a new block, as a row. -/
theorem rowAt_new {V : View} {r : Nat} {cs : List Value} {e : TypeId} {f : Nat × Nat} (h : V.see r = some (.cells ⟨cs⟩ e f)) {k : Nat} (hk : cs.length = k) : rowAt V (some ⟨r, 0, none⟩) k cs :=
  ⟨hk, cellsAt_of_see h fun j v hj => by simpa using hj⟩
theorem put_le_hide {V U : View} {r : Nat} {o : Obj} (hr : V.see r = none) (h : U.Le V) : U.Le ((V.put r o).hide r) :=
  h.trans ⟨Nat.le_max_left _ _, fun i o' ho => by
    have hne : i ≠ r := fun e => by rw [e, hr] at ho; cases ho
    rw [hide_see, if_neg hne, View.see_put_ne V _ hne]; exact ho, rfl⟩
theorem minus_see_none {V : View} {x : Sl} {r : Nat} (h : V.see r = none) : (V.minus x).see r = none := by
  unfold View.minus; split
  · exact h
  · rw [hide_see]; split
    · rfl
    · exact h
end Go.Proofs.YtdlgpolngnkiaaaDoor

/- Contracts: rows of nodes, names of nodes. -/
namespace Go.Proofs.YtdlgpolngnkiaaaDoor
open Go
theorem indexFuncN_ok {p : Nod → Bool} {s : Sl} {l : List Nod} {V : View} {g : FuncId} {xs ys : List Value} (h : SlR V s l)
    (hp : ∀ n ∈ l, ∀ a b, NodR V a b n → CallV Tryd.prog g ⟨xs ++ [nodV n a b] ++ ys⟩ V fun r V' => r = .bool (p n) ∧ V' = V) :
    CallV Tryd.prog 67 ⟨[.slice s.a s.n s.c, .func (.func g) ⟨xs⟩ ⟨ys⟩]⟩ V fun r V' => r = .int .i64 (idxI p l) ∧ V' = V := by
  refine f67_x ?_
  unfold f67_n
  have hn := h.n; have hlim := h.lim
  refine loop1 (k := .int .i64) (fun (x : Int) V' => V' = V ∧ 0 ≤ x ∧ x ≤ s.n ∧ ∀ j (hj : j < l.length), (j : Int) < x → p l[j] = false) (fun (x : Int) _ => s.n - x.toNat) ⟨rfl, by omega, by omega, fun j _ hj => by omega⟩ ?_
  rintro (x : Int) V' ⟨rfl, h0, h1, h2⟩
  refine br_intro (fun hlt => ?_) (fun hge => ?_)
  · have hlt : x < s.n := by simpa using hlt
    obtain ⟨ad, sq, en, hx, ha, hc, hN⟩ := h.nod h0 hlt
    refine ⟨h0, hlt, ad, ha, _, _, _, sq, en, hc, (hp _ (List.getElem_mem hx) _ _ hN).mono ?_⟩
    rintro r V1 ⟨rfl, rfl⟩
    refine ⟨_, rfl, br_intro (fun hb => ⟨?_, rfl⟩) (fun hb => ⟨inI64 (by omega) (by omega), ⟨rfl, by omega, by omega, fun j hj hjx => ?_⟩, by omega⟩)⟩
    · rw [idxI_first p l x.toNat hx (fun j hj => h2 j (by omega) (by omega)) hb]
      congr 1; omega
    · by_cases e : (j : Int) < x
      · exact h2 j hj e
      · have : j = x.toNat := by omega
        subst this; exact hb
  · have hge : ¬ x < s.n := by simpa using hge
    refine ⟨?_, rfl⟩
    rw [idxI_none p l fun y hy => ?_]
    obtain ⟨j, hj, rfl⟩ := List.getElem_of_mem hy
    exact h2 j hj (by omega)
theorem containsFuncN_ok {p : Nod → Bool} {s : Sl} {l : List Nod} {V : View} {g : FuncId} {xs ys : List Value} (h : SlR V s l)
    (hp : ∀ n ∈ l, ∀ a b, NodR V a b n → CallV Tryd.prog g ⟨xs ++ [nodV n a b] ++ ys⟩ V fun r V' => r = .bool (p n) ∧ V' = V) :
    CallV Tryd.prog 48 ⟨[.slice s.a s.n s.c, .func (.func g) ⟨xs⟩ ⟨ys⟩]⟩ V fun r V' => r = .bool (l.any p) ∧ V' = V := by
  refine f48_x ?_
  unfold f48_n
  refine (indexFuncN_ok h hp).mono ?_
  rintro r V' ⟨rfl, rfl⟩
  refine ⟨_, rfl, ?_, rfl⟩
  congr 1
  rcases idxI_range p l with ⟨h1, h2⟩ | ⟨h1, h2, h3⟩
  · rw [h1, h2]; rfl
  · rw [h3]; simpa using h1
theorem may1_ok {n : Nod} {s e : Sl} {V : View} (h : NodR V s e n) : CallV Tryd.prog 49 ⟨[nodV n s e]⟩ V fun r V' => r = .bool (!mayN n) ∧ V' = V := by
  refine f49_x ?_
  unfold f49_n
  refine fun _ => (mayN_ok h).mono ?_
  rintro r V' ⟨rfl, rfl⟩
  exact ⟨_, rfl, rfl, rfl⟩
theorem hangs_ok {n : Nod} {s e : Sl} {i named : Int} {met : Bool} {V : View} : CallV Tryd.prog 53 ⟨[nodV n s e, .int .i64 i, .int .i64 named, .bool met]⟩ V fun r V' => r = .bool (hangB n i named met) ∧ V' = V := by
  refine f53_x ?_
  unfold f53_n
  refine fun _ => br_intro (fun h2 => ⟨?_, rfl⟩) (fun h2 => br_intro (fun h1 => ⟨?_, rfl⟩) (fun h1 => ⟨?_, rfl⟩))
  · have h2 : n.kind = 2 := of_decide_eq_true h2
    unfold hangB; rw [if_pos h2]
    cases met <;> cases decide (i = 0) <;> rfl
  · have h2 : ¬ n.kind = 2 := of_decide_eq_false h2
    have h1 : n.kind = 1 := of_decide_eq_true h1
    unfold hangB; rw [if_neg h2, if_pos h1]
  · have h2 : ¬ n.kind = 2 := of_decide_eq_false h2
    have h1 : ¬ n.kind = 1 := of_decide_eq_false h1
    unfold hangB; rw [if_neg h2, if_neg h1]
/-! ### rows of numbers that are one's own -/
def intsV (l : List Int) : List Value := l.map fun n => .int .i64 n
def boolsV (l : List Bool) : List Value := l.map fun b => .bool b
theorem putL_one (cs : List Value) (i : Nat) (v : Value) : putL cs i [v] = cs.set i v := rfl
theorem intsV_set (l : List Int) (i : Nat) (n : Int) : (intsV l).set i (.int .i64 n) = intsV (l.set i n) := by unfold intsV; rw [List.map_set]
theorem boolsV_set (l : List Bool) (i : Nat) (n : Bool) : (boolsV l).set i (.bool n) = boolsV (l.set i n) := by unfold boolsV; rw [List.map_set]
theorem rows_int {W : View} : ∀ {l : List Int}, (∀ n ∈ l, inI .i64 n) → repL W (intsV l) l
  | [], _ => rfl
  | n :: l, h => ⟨[.int .i64 n], intsV l, rfl, ⟨rfl, h n (by simp)⟩, rows_int fun m hm => h m (by simp [hm])⟩
theorem rows_bool {W : View} : ∀ {l : List Bool}, repL W (boolsV l) l
  | [] => rfl
  | n :: l => ⟨[.bool n], boolsV l, rfl, rfl, rows_bool⟩
theorem repL_intsV {W : View} : ∀ {cs : List Value} {l : List Int}, repL W cs l → cs = intsV l
  | _, [], h => h
  | _, n :: l, ⟨vs, us, e, h1, h2⟩ => by rw [e, h1.1, repL_intsV h2]; rfl
/-- All the cells of a block, as a row of data. -/
theorem slR_block {α : Type} [Rep α] {V W : View} {r : Nat} {cs : List Value} {te : TypeId} {l : List α} (h : V.see r = some (.cells ⟨cs⟩ te (0, 0))) (hr : repL W cs l) (hW : W.Le V) (hl : l.length ≤ 140737488355328) : SlR V ⟨some ⟨r, 0, none⟩, l.length, l.length⟩ l := by
  have hlen := hr.len
  exact Buf.slR (e := te) (cs := cs) ⟨hlen, Nat.le_refl _, hl, .inr ⟨r, cs, rfl, h, hlen, by rw [List.take_of_length_le (by rw [hlen]; exact Nat.le_refl _)]⟩⟩ hr hW
theorem cnt_len (n : Nat) (es : List Ent) : (cnt n es).length = n := by simp [cnt]
theorem cnt_get (n : Nat) (es : List Ent) {j : Nat} (h : j < n) : (cnt n es).getD j 0 = ((es.countP (fun (x : Ent) => decide (x.node = (j : Int))) : Nat) : Int) := by
  rw [List.getD_eq_getElem?_getD]; simp [cnt, h]
theorem cnt_get' (n : Nat) (es : List Ent) {j : Nat} (h : j < n) : (cnt n es)[j]? = some ((es.countP (fun (x : Ent) => decide (x.node = (j : Int))) : Nat) : Int) := by
  simp [cnt, h]
theorem cnt_out {n : Nat} {es : List Ent} {x : Ent} (h : ¬ (0 ≤ x.node ∧ x.node < n)) : cnt n (es ++ [x]) = cnt n es := by
  unfold cnt
  apply List.map_congr_left
  intro j hj
  have hj := List.mem_range.1 hj
  rw [List.countP_append]
  have : decide (x.node = (j : Int)) = false := decide_eq_false (by omega)
  simp [this]
theorem cnt_in {n : Nat} {es : List Ent} {x : Ent} {k : Nat} (h : x.node = k) (hk : k < n) : cnt n (es ++ [x]) = (cnt n es).set k ((cnt n es).getD k 0 + 1) := by
  apply List.ext_getElem?
  intro j
  by_cases hj : j < n
  · rw [cnt_get' n _ hj, List.getElem?_set]
    by_cases e : k = j
    · subst e
      rw [if_pos rfl, if_pos (by rw [cnt_len]; exact hk), cnt_get n es hk, List.countP_append]
      simp [h]
    · rw [if_neg e, cnt_get' n es hj, List.countP_append]
      have : decide (x.node = (j : Int)) = false := decide_eq_false (by omega)
      simp [this]
  · rw [List.getElem?_eq_none (by rw [cnt_len]; omega), List.getElem?_eq_none (by rw [List.length_set, cnt_len]; omega)]
theorem allE_take {t : Tre} {i : Nat} (h : i < t.length) : allE (t.take (i + 1)) = allE (t.take i) ++ (t.getD i default).ents := by
  unfold allE
  rw [List.take_add_one, List.getElem?_eq_getElem h, List.flatMap_append, getD_at h]
  simp
theorem allE_len : ∀ {t : Tre} {m : Nat}, (∀ n ∈ t, n.ents.length ≤ m) → (allE t).length ≤ m * t.length
  | [], _, _ => by simp [allE]
  | n :: t, m, h => by
    have h1 := allE_len (t := t) (m := m) fun k hk => h k (by simp [hk])
    have h2 := h n (by simp)
    have e : allE (n :: t) = n.ents ++ allE t := by simp [allE]
    rw [e, List.length_append, List.length_cons, Nat.mul_add]
    omega
theorem names_ok {s : Sl} {t : Tre} {V : View} (h : SlR V s t) (h12 : t.length = 12) (he : ∀ n ∈ t, n.ents.length ≤ 10) : CallV Tryd.prog 51 ⟨[treV s]⟩ V fun r V' => ∃ x : Sl, r = .slice x.a x.n x.c ∧ SlR V' x (cnt 12 (allE t)) ∧ V.Le V' := by
  refine f51_x ?_
  unfold f51_n
  have hn : s.n = 12 := by rw [h.n, h12]
  rw [hn]
  refine fun _ => ⟨by decide, by decide, by decide, by decide, fun r hr => ?_⟩
  have hfr : V.see r = none := View.see_none_of_ge hr
  refine loop1 (k := .int .i64) (fun (x : Int) V' => ∃ i : Nat, x = i ∧ i ≤ 12 ∧ V'.see r = some (.cells ⟨intsV (cnt 12 (allE (t.take i)))⟩ 3 (0, 0)) ∧ V.Le (V'.hide r)) (fun (x : Int) _ => 12 - x.toNat) ⟨0, rfl, by omega, View.see_put_same _ _ _, put_le_hide hfr (View.Le.refl _)⟩ ?_
  rintro (x : Int) V1 ⟨i, rfl, hi, hs1, hV1⟩
  have hV1' : V.Le V1 := hV1.trans (View.hide_le _ _)
  refine br_intro (fun hlt => ?_) (fun hge => ?_)
  · have hlt : i < 12 := by have := of_decide_eq_true hlt; omega
    obtain ⟨ad, sq, en, ha, hc, hN⟩ := h.nodN (i := i) (by omega)
    have hmem : t.getD i default ∈ t := by rw [getD_at (by omega)]; exact List.getElem_mem _
    have hle := he _ hmem
    have htk : (allE (t.take i)).length ≤ 10 * 12 := Nat.le_trans (allE_len fun n hn => he n (List.mem_of_mem_take hn)) (Nat.mul_le_mul_left _ (by simp; omega))
    refine ⟨by omega, by omega, ad, ha, _, _, _, sq, en, cellsAt_mono hV1' hc, fun _ => ?_⟩
    generalize hnd : t.getD i default = nd at *
    have hen := hN.ents.n
    refine loop1 (k := .int .i64) (fun (x : Int) V' => ∃ k : Nat, x = k ∧ k ≤ nd.ents.length ∧ V'.see r = some (.cells ⟨intsV (cnt 12 (allE (t.take i) ++ nd.ents.take k))⟩ 3 (0, 0)) ∧ V.Le (V'.hide r)) (fun (x : Int) _ => nd.ents.length - x.toNat) ⟨0, rfl, by omega, by simpa using hs1, hV1⟩ ?_
    rintro (x : Int) V2 ⟨k, rfl, hk, hs2, hV2⟩
    have hV2' : V.Le V2 := hV2.trans (View.hide_le _ _)
    refine br_intro (fun hlt => ?_) (fun hge => ?_)
    · have hlt : k < nd.ents.length := by have := of_decide_eq_true hlt; omega
      obtain ⟨ad, ha, hc, hsz, hin⟩ := (hN.ents.mono hV2').entN hlt
      refine ⟨by omega, by omega, ad, ha, _, _, hc, fun _ => ?_⟩
      have etk : nd.ents.take (k + 1) = nd.ents.take k ++ [nd.ents.getD k default] := by rw [List.take_add_one, List.getElem?_eq_getElem hlt, getD_at hlt]; rfl
      generalize hx : nd.ents.getD k default = x at *
      refine joinP_cut (fun _ V3 => V3.see r = some (.cells ⟨intsV (cnt 12 (allE (t.take i) ++ nd.ents.take (k + 1)))⟩ 3 (0, 0)) ∧ V.Le (V3.hide r)) (br_intro (fun hb => ?_) (fun hb => ?_)) ?_
      · have hb : 0 ≤ x.node ∧ x.node < 12 := by
          cases h1 : decide (0 ≤ x.node) <;> rw [h1] at hb
          · cases hb
          · exact ⟨of_decide_eq_true h1, by have := of_decide_eq_true hb; omega⟩
        obtain ⟨q, hq⟩ : ∃ q : Nat, x.node = q := ⟨x.node.toNat, by omega⟩
        have hq12 : q < 12 := by omega
        have hqs : (cnt 12 (allE (t.take i) ++ nd.ents.take k)).getD q 0 ≤ 130 ∧ 0 ≤ (cnt 12 (allE (t.take i) ++ nd.ents.take k)).getD q 0 := by
          rw [cnt_get 12 _ hq12]
          have := List.countP_le_length (p := fun (x : Ent) => decide (x.node = (q : Int))) (l := allE (t.take i) ++ nd.ents.take k)
          simp only [List.length_append, List.length_take] at this
          omega
        have eset := cnt_in (es := allE (t.take i) ++ nd.ents.take k) hq hq12
        rw [List.append_assoc, ← etk] at eset
        have hgc : V2.cell? (Addr.add ⟨r, 0, none⟩ (x.node.toNat * 1)) = some (.int .i64 ((cnt 12 (allE (t.take i) ++ nd.ents.take k)).getD q 0)) := by
          rw [hq, addr0_add]
          refine cell_of_see hs2 ?_
          rw [cnt_get 12 _ hq12]
          simp [intsV, cnt_get' 12 _ hq12]
        refine ⟨hb.1, by omega, _, rfl, _, hgc, inI64 (by omega) (by omega), hb.1, by omega, _, rfl, ?_, ?_, ?_⟩
        · rw [hq, addr0_add]
          exact canSet_of hs2 (show 0 + q * 1 + 1 ≤ _ by simp [intsV, cnt_len]; omega)
        · rw [hq, addr0_add, sets_see hs2, putL_one, View.see_put_same]
          simp only [Int.toNat_natCast, Nat.zero_add, Nat.mul_one]
          rw [intsV_set, ← eset]
        · rw [hq, addr0_add, sets_see hs2]
          exact hV2.trans (hide_le_put_hide r _)
      · have hb : ¬ (0 ≤ x.node ∧ x.node < 12) := by
          rintro ⟨h1, h2⟩
          rw [decide_eq_true h1] at hb
          have := of_decide_eq_false hb
          omega
        refine ⟨?_, hV2⟩
        rw [etk, ← List.append_assoc, cnt_out hb]; exact hs2
      · rintro ⟨⟩ V3 ⟨hs3, hV3⟩
        exact ⟨inI64 (by omega) (by omega), ⟨k + 1, by omega, by omega, hs3, hV3⟩, by omega⟩
    · have hge : k = nd.ents.length := by have := of_decide_eq_false hge; omega
      subst hge
      rw [List.take_length] at hs2
      refine ⟨inI64 (by omega) (by omega), ⟨i + 1, by omega, by omega, ?_, hV2⟩, by omega⟩
      rw [allE_take (by omega), hnd]; exact hs2
  · have hge : i = 12 := by have := of_decide_eq_false hge; omega
    subst hge
    rw [List.take_of_length_le (by omega)] at hs1
    refine ⟨⟨some ⟨r, 0, none⟩, 12, 12⟩, rfl, ?_, hV1'⟩
    have := slR_block (W := V1) hs1 (rows_int fun n hn => ?_) (View.Le.refl _) (by rw [cnt_len]; omega)
    · rw [cnt_len] at this; exact this
    · unfold cnt at hn
      obtain ⟨j, _, rfl⟩ := List.mem_map.1 hn
      have h1 := List.countP_le_length (p := fun (x : Ent) => decide (x.node = (j : Int))) (l := allE t)
      have h2 := allE_len he
      exact inI64 (by omega) (by omega)
end Go.Proofs.YtdlgpolngnkiaaaDoor

/- Which nodes one comes to: a stack and marks. No program in this text. -/
namespace Go.Proofs.YtdlgpolngnkiaaaDoor
open Go
/-- Marks and a stack; of node i the first 'lim i' entries are done, unless it is on the stack. -/
structure DI (t : Tre) (a : Nat) (lim : Nat → Nat) (met : List Bool) (l : List Int) : Prop where
  len : met.length = 12
  start : met.getD a false = true
  sound : ∀ j, met.getD j false = true → Reach t a j
  stack : ∀ y ∈ l, 0 ≤ y ∧ y < 12 ∧ met.getD y.toNat false = true
  done : ∀ i, met.getD i false = true → (i : Int) ∈ l ∨ ∀ e ∈ (t.getD i default).ents.take (lim i), met.getD e.node.toNat false = true
  room : l.length + met.countP (fun b => !b) ≤ 12
def full (t : Tre) (i : Nat) : Nat := (t.getD i default).ents.length
def upto (t : Tre) (c k i : Nat) : Nat := if i = c then k else full t i
theorem getD_set_bool (met : List Bool) (q j : Nat) (h : q < met.length) : (met.set q true).getD j false = if j = q then true else met.getD j false := by
  rw [List.getD_eq_getElem?_getD, List.getD_eq_getElem?_getD, List.getElem?_set]
  by_cases e : q = j
  · rw [if_pos e, if_pos e.symm, if_pos h]; rfl
  · rw [if_neg e, if_neg (fun h => e h.symm)]
theorem countP_set : ∀ (met : List Bool) (q : Nat), q < met.length → met.getD q false = false → (met.set q true).countP (fun b => !b) + 1 = met.countP (fun b => !b)
  | b :: met, 0, _, h => by
    have h : b = false := by simpa using h
    subst h
    simp
  | b :: met, q + 1, hq, h => by
    have := countP_set met q (by simpa using hq) (by simpa using h)
    simp only [List.set_cons_succ, List.countP_cons]
    omega
theorem DI.first {t : Tre} {a : Nat} (ha : a < 12) : DI t a (full t) ((List.replicate 12 false).set a true) [(a : Int)] := by
  have hl : a < (List.replicate 12 false).length := by simpa using ha
  have hg := fun j => getD_set_bool (List.replicate 12 false) a j hl
  have hr : ∀ j, (List.replicate 12 false).getD j false = false := fun j => by
    rw [List.getD_eq_getElem?_getD, List.getElem?_replicate]; split <;> rfl
  have hc := countP_set _ a hl (hr a)
  have hc2 : (List.replicate 12 false).countP (fun b => !b) = 12 := rfl
  refine ⟨by simp, by rw [hg, if_pos rfl], fun j hj => ?_, fun y hy => ?_, fun i hi => ?_, by simp only [List.length_cons, List.length_nil]; omega⟩
  · rw [hg, hr] at hj
    split at hj
    · rename_i e; subst e; exact .refl
    · cases hj
  · have hy : y = a := by simpa using hy
    subst hy
    exact ⟨by omega, by omega, by rw [Int.toNat_natCast, hg, if_pos rfl]⟩
  · rw [hg, hr] at hi
    split at hi
    · rename_i e; subst e; left; simp
    · cases hi
theorem DI.pop {t : Tre} {a : Nat} {met : List Bool} {l : List Int} {c : Nat} (h : DI t a (full t) met (l ++ [(c : Int)])) : DI t a (upto t c 0) met l := by
  refine ⟨h.len, h.start, h.sound, fun y hy => h.stack y (by simp [hy]), fun i hi => ?_, by have := h.room; simp at this; omega⟩
  unfold upto
  by_cases e : i = c
  · right; rw [if_pos e]; simp
  · rw [if_neg e]
    rcases h.done i hi with h1 | h1
    · left
      rcases List.mem_append.1 h1 with h2 | h2
      · exact h2
      · exact absurd (Int.ofNat.inj (by simpa using h2)) e
    · exact .inr h1
theorem DI.old {t : Tre} {a : Nat} {met : List Bool} {l : List Int} {c k : Nat} (h : DI t a (upto t c k) met l) (hk : k < full t c) (hm : met.getD ((t.getD c default).ents.getD k default).node.toNat false = true) : DI t a (upto t c (k + 1)) met l := by
  refine ⟨h.len, h.start, h.sound, h.stack, fun i hi => ?_, h.room⟩
  rcases h.done i hi with h1 | h1
  · exact .inl h1
  · right
    unfold upto at h1 ⊢
    by_cases e : i = c
    · subst e
      rw [if_pos rfl] at h1 ⊢
      rw [List.take_add_one, List.getElem?_eq_getElem hk]
      intro x hx
      rcases List.mem_append.1 hx with h2 | h2
      · exact h1 x h2
      · have h2 : x = (t.getD i default).ents[k] := by simpa using h2
        rw [getD_at hk] at hm
        rw [h2]; exact hm
    · rw [if_neg e] at h1 ⊢; exact h1
theorem DI.new {t : Tre} {a : Nat} {met : List Bool} {l : List Int} {c k q : Nat} (h : DI t a (upto t c k) met l) (hk : k < full t c) (hq : ((t.getD c default).ents.getD k default).node = q) (hq12 : q < 12) (hc : met.getD c false = true) (hm : met.getD q false = false) :
    DI t a (upto t c (k + 1)) (met.set q true) (l ++ [(q : Int)]) ∧ (met.set q true).countP (fun b => !b) + 1 = met.countP (fun b => !b) := by
  have hl : q < met.length := by rw [h.len]; exact hq12
  have hg := fun j => getD_set_bool met q j hl
  have hcp := countP_set met q hl hm
  have up : ∀ j, met.getD j false = true → (met.set q true).getD j false = true := fun j hj => by rw [hg, hj]; simp
  have hreach : Reach t a q := by
    have hx : (t.getD c default).ents.getD k default ∈ (t.getD c default).ents := by
      rw [getD_at hk]; exact List.getElem_mem hk
    have := Reach.step (h.sound c hc) hx
    rw [hq, Int.toNat_natCast] at this
    exact this
  refine ⟨⟨by simp [h.len], up _ h.start, fun j hj => ?_, fun y hy => ?_, fun i hi => ?_, by have := h.room; simp; omega⟩, hcp⟩
  · rw [hg] at hj
    split at hj
    · rename_i e; subst e; exact hreach
    · exact h.sound j hj
  · rcases List.mem_append.1 hy with h1 | h1
    · obtain ⟨y1, y2, y3⟩ := h.stack y h1
      exact ⟨y1, y2, up _ y3⟩
    · have h1 : y = q := by simpa using h1
      subst h1
      exact ⟨by omega, by omega, by rw [Int.toNat_natCast, hg, if_pos rfl]⟩
  · rw [hg] at hi
    by_cases e : i = q
    · left; subst e; simp
    · rw [if_neg e] at hi
      rcases h.done i hi with h1 | h1
      · left; simp [h1]
      · right
        unfold upto at h1 ⊢
        by_cases e : i = c
        · subst e
          rw [if_pos rfl] at h1 ⊢
          rw [List.take_add_one, List.getElem?_eq_getElem hk]
          intro x hx
          rcases List.mem_append.1 hx with h2 | h2
          · exact up _ (h1 x h2)
          · have h2 : x = (t.getD i default).ents[k] := by simpa using h2
            rw [getD_at hk] at hq
            rw [h2, hq, Int.toNat_natCast, hg, if_pos rfl]
        · rw [if_neg e] at h1 ⊢
          exact fun x hx => up _ (h1 x hx)
theorem DI.close {t : Tre} {a : Nat} {met : List Bool} {l : List Int} {c : Nat} (h : DI t a (upto t c (full t c)) met l) : DI t a (full t) met l := by
  have e : upto t c (full t c) = full t := by
    funext i
    unfold upto
    by_cases e : i = c
    · rw [if_pos e, e]
    · rw [if_neg e]
  rw [e] at h; exact h
theorem DI.end {t : Tre} {a : Nat} {met : List Bool} (h : DI t a (full t) met []) : met = (List.range 12).map (metB t a) := by
  have hall : ∀ j, Reach t a j → met.getD j false = true := by
    intro j hj
    induction hj with
    | refl => exact h.start
    | step hi hx ih =>
      rcases h.done _ ih with h1 | h1
      · cases h1
      · exact h1 _ (by unfold full; rw [List.take_length]; exact hx)
  apply List.ext_getElem (by simp [h.len])
  intro j h1 h2
  have e : met.getD j false = met[j] := by rw [List.getD_eq_getElem?_getD, List.getElem?_eq_getElem h1]; rfl
  rw [List.getElem_map, List.getElem_range, Bool.eq_iff_iff, metB_iff, ← e]
  exact ⟨h.sound j, hall j⟩
end Go.Proofs.YtdlgpolngnkiaaaDoor

/- The contract of dir.below. -/
namespace Go.Proofs.YtdlgpolngnkiaaaDoor
open Go
def isF : Value → Bool
  | .bool b => !b
  | _ => false
def unm : Option Obj → Nat
  | some (.cells c _ _) => c.toList.countP isF
  | _ => 0
theorem unm_bools (met : List Bool) (e : TypeId) (f : Nat × Nat) : unm (some (.cells ⟨boolsV met⟩ e f)) = met.countP (fun b => !b) := by
  show (boolsV met).countP isF = _
  unfold boolsV
  rw [List.countP_map]
  rfl
/-- Marks in a block, a stack in a row of one's own, beside what was there. -/
structure BI (V V' : View) (r : Nat) (x : Sl) (met : List Bool) (l : List Int) : Prop where
  marks : V'.see r = some (.cells ⟨boolsV met⟩ 4 (0, 0))
  stack : Buf (V'.hide r) x 3 1 (intsV l)
  le : V.Le ((V'.hide r).minus x)
theorem intsV_len (l : List Int) : (intsV l).length = l.length := by simp [intsV]
theorem boolsV_len (l : List Bool) : (boolsV l).length = l.length := by simp [boolsV]
theorem BI.n {V V' : View} {r : Nat} {x : Sl} {met : List Bool} {l : List Int} (h : BI V V' r x met l) : x.n = l.length := by
  have := h.stack.len; rw [intsV_len, Nat.mul_one] at this; exact this.symm
theorem BI.vle {V V' : View} {r : Nat} {x : Sl} {met : List Bool} {l : List Int} (h : BI V V' r x met l) : V.Le V' := h.le.trans ((View.minus_le _ _).trans (View.hide_le _ _))
theorem below_ok {s : Sl} {t : Tre} {a : Nat} {V : View} (h : SlR V s t) (h12 : t.length = 12) (ha : a < 12) (hnode : ∀ n ∈ t, ∀ e ∈ n.ents, 0 ≤ e.node ∧ e.node < 12) :
    CallV Tryd.prog 52 ⟨[treV s, .int .i64 a]⟩ V fun r V' => ∃ x : Sl, r = .slice x.a x.n x.c ∧ SlR V' x ((List.range 12).map (metB t a)) ∧ V.Le V' := by
  refine f52_x ?_
  unfold f52_n
  have hn : s.n = 12 := by rw [h.n, h12]
  rw [hn]
  refine fun _ => ⟨by decide, by decide, by decide, by decide, fun r hr r1 hr1 => ?_⟩
  have hfr : V.see r = none := View.see_none_of_ge hr
  have hfr1 := View.see_none_of_ge hr1
  have hne : r ≠ r1 := fun e => by rw [← e, View.see_put_same] at hfr1; cases hfr1
  generalize hU : (V.put r _) = U at *
  have hUr : U.see r = some (.cells ⟨boolsV (List.replicate 12 false)⟩ 4 (0, 0)) := by rw [← hU, View.see_put_same]; rfl
  have hVU : V.Le (U.hide r) := by rw [← hU]; exact put_le_hide hfr (View.Le.refl _)
  generalize hU1 : (U.put r1 _) = U1
  have hU1r : U1.see r = some (.cells ⟨boolsV (List.replicate 12 false)⟩ 4 (0, 0)) := by rw [← hU1, View.see_put_ne _ _ hne]; exact hUr
  have hU1s : U1.see r1 = some (.cells ⟨[.int .i64 a]⟩ 3 (0, 0)) := by rw [← hU1, View.see_put_same]; rfl
  have hVU1 : V.Le ((U1.hide r).hide r1) := by
    refine hVU.trans ?_
    rw [← hU1]
    refine ⟨Nat.le_max_left _ _, fun i o ho => ?_, rfl⟩
    rw [hide_see] at ho
    split at ho
    · cases ho
    · rename_i hi
      have hi1 : i ≠ r1 := fun e => by rw [e, hfr1] at ho; cases ho
      rw [hide_see, if_neg hi1, hide_see, if_neg hi, View.see_put_ne _ _ hi1]; exact ho
  refine ⟨by omega, by omega, _, rfl, ?_, ?_⟩
  · rw [addr0_add]; exact canSet_of hU1r (show 0 + ((a : Int)).toNat * 1 + 1 ≤ _ by rw [boolsV_len]; simp; omega)
  have hst : U1.sets ((⟨r, 0, none⟩ : Addr).add ((a : Int).toNat * 1)) [.bool true] = U1.put r (.cells ⟨boolsV ((List.replicate 12 false).set a true)⟩ 4 (0, 0)) := by
    rw [addr0_add, sets_see hU1r, putL_one]
    simp only [Int.toNat_natCast, Nat.zero_add, Nat.mul_one]
    rw [boolsV_set]
  rw [hst]
  refine loop1 (k := .sl) (fun (x : Sl) V' => ∃ met l, BI V V' r x met l ∧ DI t a (full t) met l) (fun (x : Sl) V' => 2 * unm (V'.see r) + x.n) ⟨_, [(a : Int)], ⟨View.see_put_same _ _ _, ⟨rfl, Nat.le_refl _, (by decide : 1 ≤ 140737488355328), .inr ⟨r1, [.int .i64 a], rfl, ?_, rfl, rfl⟩⟩, ?_⟩, DI.first ha⟩ ?_
  · rw [hide_see, if_neg (fun e => hne e.symm), View.see_put_ne _ _ (fun e => hne e.symm)]; exact hU1s
  · refine hVU1.trans ?_
    show ((U1.hide r).hide r1).Le (((U1.put r _).hide r).hide r1)
    exact hide_mono (hide_le_put_hide r _) r1
  rintro (x : Sl) V1 ⟨met, l, hB, hD⟩
  have hxn := hB.n
  have hxc := hB.stack.le
  have hroom := hD.room
  have hxl : x.n ≤ 140737488355328 := hB.stack.lim
  have hV1 := hB.vle
  refine br_intro (fun hlt => ?_) (fun hge => ?_)
  · have hlt : 0 < x.n := by have := of_decide_eq_true hlt; omega
    obtain ⟨l', y, rfl⟩ : ∃ l' y, l = l' ++ [y] := by
      rcases List.eq_nil_or_concat l with h1 | ⟨l', y, h1⟩
      · rw [h1] at hxn; simp at hxn; omega
      · exact ⟨l', y, by simpa using h1⟩
    obtain ⟨y1, y2, y3⟩ := hD.stack y (by simp)
    obtain ⟨c, rfl⟩ : ∃ c : Nat, y = c := ⟨y.toNat, by omega⟩
    rw [Int.toNat_natCast] at y3
    simp only [List.length_append, List.length_cons, List.length_nil] at hxn hroom
    have hrow := hB.stack.row
    cases hxa : x.a with
    | none => rw [hxa] at hrow; simp [rowAt, intsV] at hrow
    | some ad =>
      rw [hxa] at hrow
      have hcell : V1.cell? (ad.add (((x.n : Int) - 1).toNat * 1)) = some (.int .i64 c) := by
        have e1 : (((x.n : Int) - 1).toNat * 1) = l'.length := by omega
        rw [e1]
        have := hrow.2 l'.length (.int .i64 c) (by simp [intsV])
        exact (View.hide_le V1 r).cell this
      obtain ⟨ad2, sq, en, ha2, hc2, hN⟩ := h.nodN (i := c) (by omega)
      have hmem : t.getD c default ∈ t := by rw [getD_at (by omega)]; exact List.getElem_mem _
      have hnd := hnode _ hmem
      have hc24 := cellsAt_nth (cellsAt_mono hV1 hc2) 4 rfl
      refine ⟨inI64 (by omega) (by omega), by omega, by omega, ad, rfl, _, hcell, inI64 (by omega) (by omega), by omega, by omega, by omega, by omega, by omega, ad2, ha2, en, hc24, ?_⟩
      have e2 : (if x.c = 0 then some ad else Option.map (fun (x : Addr) => x.add 0) (some ad)) = some ad := by rw [map_add_zero]; simp
      rw [e2, Nat.sub_zero, Nat.sub_zero]
      have hen := hN.ents.n
      have helim := hN.ents.lim
      have hfl : full t c = en.n := hen.symm
      have hbuf' : Buf (V1.hide r) ⟨some ad, ((x.n : Int) - 1).toNat, x.c⟩ 3 1 (intsV l') := by
        have := hB.stack.cut (k := ((x.n : Int) - 1).toNat) (by omega)
        rw [hxa] at this
        have e3 : (intsV (l' ++ [(c : Int)])).take ((((x.n : Int) - 1).toNat) * 1) = intsV l' := by
          have e1 : (((x.n : Int) - 1).toNat * 1) = l'.length := by omega
          rw [e1]; unfold intsV; rw [List.map_append, List.take_left' (by simp)]
        rw [e3] at this
        exact this
      have hle' : V.Le ((V1.hide r).minus ⟨some ad, ((x.n : Int) - 1).toNat, x.c⟩) := by
        have := hB.le
        unfold View.minus at this ⊢
        rw [hxa] at this
        exact this
      have hmeas : 2 * unm (V1.see r) + x.n = 2 * met.countP (fun b => !b) + l'.length + 1 := by rw [hB.marks, unm_bools]; omega
      rw [hmeas]
      generalize hM : 2 * met.countP (fun b => !b) + l'.length + 1 = M
      refine loop2 (k := .sl) (l := .int .i64) (fun (x : Sl) (i : Int) V' => ∃ (k : Nat) (met : List Bool) (l : List Int), i = k ∧ k ≤ full t c ∧ BI V V' r x met l ∧ DI t a (upto t c k) met l ∧ met.getD c false = true ∧ 2 * met.countP (fun b => !b) + l.length + 1 ≤ M) (fun _ (i : Int) _ => full t c - i.toNat)
        ⟨0, met, l', rfl, Nat.zero_le _, ⟨hB.marks, hbuf', hle'⟩, hD.pop, y3, by omega⟩ ?_
      rintro (z : Sl) (i : Int) V2 ⟨k, met2, l2, rfl, hk, hB2, hD2, hc', hM2⟩
      have hV2 := hB2.vle
      have hzn := hB2.n
      have hroom2 := hD2.room
      refine br_intro (fun hlt => ?_) (fun hge => ?_)
      · have hlt : k < full t c := by have := of_decide_eq_true hlt; omega
        obtain ⟨ad3, ha3, hc3, _, _⟩ := (hN.ents.mono hV2).entN (i := k) hlt
        have hxm : (t.getD c default).ents.getD k default ∈ (t.getD c default).ents := by rw [getD_at hlt]; exact List.getElem_mem _
        have hq := hnd _ hxm
        obtain ⟨q, hqe⟩ : ∃ q : Nat, ((t.getD c default).ents.getD k default).node = q := ⟨((t.getD c default).ents.getD k default).node.toNat, by omega⟩
        have hq12 : q < 12 := by omega
        have hcm : V2.cell? (Addr.add ⟨r, 0, none⟩ (((t.getD c default).ents.getD k default).node.toNat * 1)) = some (.bool (met2.getD q false)) := by
          rw [hqe, addr0_add]
          refine cell_of_see hB2.marks ?_
          have hql : q < met2.length := by rw [hD2.len]; exact hq12
          rw [List.getD_eq_getElem?_getD, List.getElem?_eq_getElem hql]
          show (boolsV met2)[0 + ((q : Int)).toNat * 1]? = _
          unfold boolsV
          rw [Int.toNat_natCast, Nat.zero_add, Nat.mul_one, List.getElem?_map, List.getElem?_eq_getElem hql]
          rfl
        refine ⟨by omega, by omega, ad3, ha3, _, _, hc3, fun _ => ⟨hq.1, by omega, _, rfl, _, hcm, ?_⟩⟩
        refine joinP_cut (fun w V3 => ∃ met l, BI V V3 r w.1 met l ∧ DI t a (upto t c (k + 1)) met l ∧ met.getD c false = true ∧ 2 * met.countP (fun b => !b) + l.length + 1 ≤ M) (br_intro (fun hb => ?_) (fun hb => ?_)) ?_
        · have hb : met2.getD q false = false := not_t hb
          obtain ⟨hD3, hcp⟩ := hD2.new hlt hqe hq12 hc' hb
          have hup : (met2.set q true).getD c false = true := by rw [getD_set_bool _ _ _ (by rw [hD2.len]; exact hq12), hc']; simp
          have hset : V2.sets ((⟨r, 0, none⟩ : Addr).add (((t.getD c default).ents.getD k default).node.toNat * 1)) [.bool true] = V2.put r (.cells ⟨boolsV (met2.set q true)⟩ 4 (0, 0)) := by
            rw [hqe, addr0_add, sets_see hB2.marks, putL_one]
            simp only [Int.toNat_natCast, Nat.zero_add, Nat.mul_one]
            rw [boolsV_set]
          refine ⟨hq.1, by omega, _, rfl, ?_, ?_⟩
          · rw [hqe, addr0_add]; exact canSet_of hB2.marks (show 0 + ((q : Int)).toNat * 1 + 1 ≤ _ by rw [boolsV_len, hD2.len]; simp; omega)
          · rw [hset]
            intro r2 hr2
            have hfr2 := View.see_none_of_ge hr2
            have hne2 : r ≠ r2 := fun e => by rw [← e, View.see_put_same] at hfr2; cases hfr2
            have hbuf2 : Buf ((V2.put r (.cells ⟨boolsV (met2.set q true)⟩ 4 (0, 0))).hide r) z 3 1 (intsV l2) := hB2.stack.mono (hide_le_put_hide r _)
            have hle2 : V.Le (((V2.put r (.cells ⟨boolsV (met2.set q true)⟩ 4 (0, 0))).hide r).minus z) := hB2.le.trans (minus_mono (hide_le_put_hide r _) z)
            have hsee2 : (V2.put r (.cells ⟨boolsV (met2.set q true)⟩ 4 (0, 0))).see r = some (.cells ⟨boolsV (met2.set q true)⟩ 4 (0, 0)) := View.see_put_same _ _ _
            generalize (V2.put r (.cells ⟨boolsV (met2.set q true)⟩ 4 (0, 0))) = W at *
            have hW := View.put_le (o := .cells ⟨putL [.int .i64 0] 0 [.int .i64 ((t.getD c default).ents.getD k default).node]⟩ 3 (0, 0)) hfr2
            refine apV_beside (V0 := V) (p := r) (cs := intsV l2) (src := [.int .i64 q]) (m := 1) rfl (hW.see _ _ hsee2) (hbuf2.mono (hide_mono hW r)) (hle2.trans (minus_mono (hide_mono hW r) z)) ⟨rfl, rowAt_new (by rw [View.see_put_same, hqe]; rfl) rfl⟩ rfl rfl (by show (z.n + 1) * 8 ≤ _; omega) (by show z.n + 1 ≤ _; omega) ?_
            intro s3 V3 hsee3 hbuf3 hle3 _
            have e4 : intsV l2 ++ [.int .i64 (q : Int)] = intsV (l2 ++ [(q : Int)]) := by simp [intsV]
            rw [e4] at hbuf3
            exact ⟨_, _, ⟨hsee3, hbuf3, hle3⟩, hD3, hup, by simp; omega⟩
        · have hb : met2.getD q false = true := not_f hb
          exact ⟨met2, l2, ⟨hB2.marks, hB2.stack, hB2.le⟩, hD2.old hlt (by rw [hqe, Int.toNat_natCast]; exact hb), hc', hM2⟩
        · rintro ⟨w, ⟨⟩⟩ V3 ⟨met3, l3, hB3, hD3, hc3, hM3⟩
          exact ⟨inI64 (by omega) (by omega), ⟨k + 1, met3, l3, by omega, by omega, hB3, hD3, hc3, hM3⟩, by omega⟩
      · have hge : k = full t c := by have := of_decide_eq_false hge; omega
        subst hge
        refine ⟨⟨met2, l2, ⟨hB2.marks, hB2.stack, hB2.le⟩, hD2.close⟩, ?_⟩
        rw [hB2.marks, unm_bools]
        show 2 * _ + z.n < _
        omega
  · have hge : l = [] := List.eq_nil_of_length_eq_zero (by have := of_decide_eq_false hge; omega)
    subst hge
    refine ⟨⟨some ⟨r, 0, none⟩, 12, 12⟩, rfl, ?_, hV1⟩
    have := slR_block (W := V1) hB.marks rows_bool (View.Le.refl _) (by rw [hD.len]; omega)
    rw [hD.len, hD.end] at this
    exact this
end Go.Proofs.YtdlgpolngnkiaaaDoor

/- Maps with numbers as keys: what is found behind a key, and behind what is put. No program in this text. -/
namespace Go.Proofs.YtdlgpolngnkiaaaDoor
open Go
def keyI (e : MapEntry) : Int := match e.key with
  | .int _ n => n
  | _ => 0
/-- All keys are numbers. -/
def IntK (es : List MapEntry) : Prop := ∀ e ∈ es, ∃ n, e.key = .int .i64 n
/-- What stands behind a key. -/
def vlk (k : Int) : List MapEntry → Option Value
  | [] => none
  | e :: es => if keyI e = k then some e.val else vlk k es
theorem mfind_int {k : Int} : ∀ {es : List MapEntry} (_ : IntK es) (i : Nat), ∃ f, mfind (.int .i64 k) es i = some f ∧
    ((f = none ∧ vlk k es = none) ∨ ∃ j v, f = some (i + j, v) ∧ vlk k es = some v ∧ j < es.length ∧ ∀ (u : MapEntry → MapEntry) (w : Value), (∀ e, keyI e = k → keyI (u e) = k ∧ (u e).val = w ∧ ∃ n, (u e).key = .int .i64 n) → IntK (es.modify j u) ∧ ∀ k', vlk k' (es.modify j u) = if k' = k then some w else vlk k' es)
  | [], _, i => ⟨none, rfl, .inl ⟨rfl, rfl⟩⟩
  | e :: es, h, i => by
    obtain ⟨n, hn⟩ := h e (by simp)
    have hk : keyI e = n := by unfold keyI; rw [hn]
    have h' : IntK es := fun e he => h e (by simp [he])
    have hq : keyEq (.int .i64 k) (.int .i64 n) = some (decide (k = n)) := rfl
    by_cases hkn : k = n
    · subst hkn
      refine ⟨some (i, e.val), ?_, .inr ⟨0, e.val, rfl, by unfold vlk; rw [if_pos hk], by simp, fun u w hu => ⟨?_, fun k' => ?_⟩⟩⟩
      · unfold mfind; rw [hn, hq, decide_eq_true rfl]
      · intro e' he'
        rw [List.modify_zero_cons] at he'
        rcases List.mem_cons.1 he' with h1 | h1
        · rw [h1]; exact (hu e hk).2.2
        · exact h' e' h1
      · rw [List.modify_zero_cons]
        unfold vlk
        rw [(hu e hk).1, (hu e hk).2.1, hk]
        by_cases e1 : k = k'
        · rw [if_pos e1, if_pos e1.symm]
        · rw [if_neg e1, if_neg (fun h => e1 h.symm), if_neg e1]
    · have hne : ¬ keyI e = k := fun e => hkn (by rw [← e, hk])
      obtain ⟨f, hf, hr⟩ := mfind_int (k := k) h' (i + 1)
      refine ⟨f, by unfold mfind; rw [hn, hq, decide_eq_false hkn]; exact hf, ?_⟩
      rcases hr with ⟨h1, h2⟩ | ⟨j, v, h1, h2, h3, h4⟩
      · exact .inl ⟨h1, by unfold vlk; rw [if_neg hne]; exact h2⟩
      · refine .inr ⟨j + 1, v, by rw [h1]; congr 2; omega, by unfold vlk; rw [if_neg hne]; exact h2, by simpa using h3, fun u w hu => ?_⟩
        obtain ⟨h5, h6⟩ := h4 u w hu
        rw [List.modify_succ_cons]
        refine ⟨fun e' he' => ?_, fun k' => ?_⟩
        · rcases List.mem_cons.1 he' with h7 | h7
          · rw [h7]; exact ⟨n, hn⟩
          · exact h5 e' h7
        · unfold vlk
          by_cases e1 : keyI e = k'
          · rw [if_pos e1, if_pos e1, if_neg (fun h => hne (by rw [e1, h]))]
          · rw [if_neg e1, if_neg e1]; exact h6 k'
theorem vlk_append (k : Int) : ∀ (es ds : List MapEntry), vlk k (es ++ ds) = (vlk k es).or (vlk k ds)
  | [], ds => by simp [vlk]
  | e :: es, ds => by
    show (if keyI e = k then some e.val else vlk k (es ++ ds)) = (if keyI e = k then some e.val else vlk k es).or (vlk k ds)
    split
    · rfl
    · exact vlk_append k es ds
/-- What is put is found; all else is as it was. -/
theorem mput_int {es : Array MapEntry} {cl : Nat} {k : Int} {v : Value} (h : IntK es.toList) :
    ∃ f, mfind (.int .i64 k) es.toList 0 = some f ∧ (∀ z, found z f = (vlk k es.toList).getD z) ∧ ∃ es' cl', mput es cl f (.int .i64 k) v = .map es' cl' ∧ IntK es'.toList ∧ ∀ k', vlk k' es'.toList = if k' = k then some v else vlk k' es.toList := by
  obtain ⟨f, hf, hr⟩ := mfind_int (k := k) h 0
  refine ⟨f, hf, ?_, ?_⟩
  · intro z
    rcases hr with ⟨rfl, h2⟩ | ⟨j, w, rfl, h2, _⟩
    · rw [h2]; rfl
    · rw [h2]; rfl
  · rcases hr with ⟨rfl, h2⟩ | ⟨j, w, rfl, h2, h3, h4⟩
    · refine ⟨_, _, rfl, ?_, fun k' => ?_⟩
      · intro e he
        rw [Array.toList_push] at he
        rcases List.mem_append.1 he with h5 | h5
        · exact h e h5
        · rw [List.mem_singleton.1 h5]; exact ⟨k, rfl⟩
      · rw [Array.toList_push, vlk_append]
        by_cases e1 : k' = k
        · rw [if_pos e1, e1, h2]; simp [vlk, keyI]
        · rw [if_neg e1]
          have e2 : ¬ k = k' := fun h => e1 h.symm
          have : vlk k' [{ key := .int .i64 k, val := v, born := cl }] = none := by simp [vlk, keyI, e2]
          rw [this]; simp
    · obtain ⟨h5, h6⟩ := h4 (fun e => { e with key := .int .i64 k, val := v }) v (fun e _ => ⟨rfl, rfl, k, rfl⟩)
      refine ⟨_, _, rfl, ?_, fun k' => ?_⟩
      · rw [Array.toList_modify, Nat.zero_add]; exact h5
      · rw [Array.toList_modify, Nat.zero_add]; exact h6 k'
end Go.Proofs.YtdlgpolngnkiaaaDoor

/- The contract of dir.apart. -/
namespace Go.Proofs.YtdlgpolngnkiaaaDoor
open Go
/-- A map that counts. -/
def CountM (V : View) (r : Nat) (l : List Int) : Prop := ∃ es cl, V.see r = some (.map es cl) ∧ IntK es.toList ∧ ∀ k, (vlk k es.toList).getD (.int .i64 0) = .int .i64 (l.count k)
theorem count_snoc (l : List Int) (x k : Int) : (l ++ [x]).count k = l.count k + if k = x then 1 else 0 := by
  rw [List.count_append]
  by_cases e : k = x
  · subst e; simp
  · rw [if_neg e]; simp [Ne.symm e]
theorem CountM.bump {V : View} {r : Nat} {l : List Int} (h : CountM V r l) (x : Int) : ∃ es cl f, V.see r = some (.map es cl) ∧ mfind (.int .i64 x) es.toList 0 = some f ∧ found (.int .i64 0) f = .int .i64 (l.count x) ∧ CountM (V.put r (mput es cl f (.int .i64 x) (.int .i64 ((l.count x : Int) + 1)))) r (l ++ [x]) := by
  obtain ⟨es, cl, hs, hk, hv⟩ := h
  obtain ⟨f, hf, hfd, es', cl', hm, hk', hv'⟩ := mput_int (cl := cl) (k := x) (v := .int .i64 ((l.count x : Int) + 1)) hk
  refine ⟨es, cl, f, hs, hf, by rw [hfd, hv], es', cl', by rw [View.see_put_same, hm], hk', fun k => ?_⟩
  rw [hv', count_snoc]
  by_cases e : k = x
  · rw [if_pos e, if_pos e, e]; rfl
  · rw [if_neg e, if_neg e, hv]; simp
theorem CountM.look {V : View} {r : Nat} {l : List Int} (h : CountM V r l) (x : Int) : ∃ es cl f, V.see r = some (.map es cl) ∧ mfind (.int .i64 x) es.toList 0 = some f ∧ found (.int .i64 0) f = .int .i64 (l.count x) := by
  obtain ⟨es, cl, f, h1, h2, h3, _⟩ := h.bump x
  exact ⟨es, cl, f, h1, h2, h3⟩
theorem allS_take {t : Tre} {i : Nat} (h : i < t.length) : allS (t.take (i + 1)) = allS (t.take i) ++ (t.getD i default).seqs := by
  unfold allS
  rw [List.take_add_one, List.getElem?_eq_getElem h, List.flatMap_append, getD_at h]
  simp
theorem allS_len : ∀ {t : Tre} {m : Nat}, (∀ n ∈ t, n.seqs.length ≤ m) → (allS t).length ≤ m * t.length
  | [], _, _ => by simp [allS]
  | n :: t, m, h => by
    have h1 := allS_len (t := t) (m := m) fun k hk => h k (by simp [hk])
    have h2 := h n (by simp)
    have e : allS (n :: t) = n.seqs ++ allS t := by simp [allS]
    rw [e, List.length_append, List.length_cons, Nat.mul_add]
    omega
theorem allS_prefix (t : Tre) (i : Nat) : allS (t.take i) <+: allS t := by
  have : allS t = allS (t.take i) ++ allS (t.drop i) := by unfold allS; rw [← List.flatMap_append, List.take_append_drop]
  rw [this]; exact List.prefix_append _ _
theorem apart_prefix {l m : List Int} (h : l <+: m) (ha : apartL l = false) : apartL m = false := by
  unfold apartL at *
  rw [decide_eq_false_iff_not] at *
  exact fun hm => ha (hm.sublist (h.sublist.filter _))
theorem apart_snoc {l : List Int} {x : Int} (h : apartL l = true) : apartL (l ++ [x]) = !(!decide (x = 0) && decide (1 < (l ++ [x]).count x)) := by
  unfold apartL at *
  have h := of_decide_eq_true h
  rw [List.filter_append, count_snoc, if_pos rfl]
  by_cases hx : x = 0
  · subst hx; simpa using h
  · have e1 : [x].filter (fun s => decide (s ≠ 0)) = [x] := by simp [hx]
    rw [e1]
    by_cases hm : x ∈ l
    · have hc := List.count_pos_iff.2 hm
      have : ¬ (l.filter (fun s => decide (s ≠ 0)) ++ [x]).Nodup := by
        rw [List.nodup_append]
        intro hn
        exact hn.2.2 x (by simp [hm, hx]) x (by simp) rfl
      rw [decide_eq_false this, decide_eq_true (show 1 < l.count x + 1 by omega)]
      simp [hx]
    · have hc := List.count_eq_zero.2 hm
      have : (l.filter (fun s => decide (s ≠ 0)) ++ [x]).Nodup := by
        rw [List.nodup_append]
        refine ⟨h, by simp, fun a ha b hb hab => ?_⟩
        have hb : b = x := by simpa using hb
        rw [hab, hb] at ha
        exact hm ((List.mem_filter.1 ha).1)
      rw [decide_eq_true this, hc]
      simp
theorem apart_ok {s : Sl} {t : Tre} {V : View} (h : SlR V s t) (h12 : t.length = 12) (h5 : ∀ n ∈ t, n.seqs.length ≤ 5) : CallV Tryd.prog 54 ⟨[treV s]⟩ V fun r V' => r = .bool (apartL (allS t)) ∧ V.Le V' := by
  refine f54_x ?_
  unfold f54_n
  have hn : s.n = 12 := by rw [h.n, h12]
  rw [hn]
  refine fun _ r hr => ?_
  have hfr : V.see r = none := View.see_none_of_ge hr
  refine loop1 (k := .int .i64) (fun (x : Int) V' => ∃ i : Nat, x = i ∧ i ≤ 12 ∧ CountM V' r (allS (t.take i)) ∧ apartL (allS (t.take i)) = true ∧ V.Le (V'.hide r)) (fun (x : Int) _ => 12 - x.toNat) ⟨0, rfl, by omega, ⟨_, _, View.see_put_same _ _ _, fun e he => (by cases he), fun k => rfl⟩, rfl, put_le_hide hfr (View.Le.refl _)⟩ ?_
  rintro (x : Int) V1 ⟨i, rfl, hi, hs1, hp1, hV1⟩
  have hV1' : V.Le V1 := hV1.trans (View.hide_le _ _)
  refine br_intro (fun hlt => ?_) (fun hge => ?_)
  · have hlt : i < 12 := by have := of_decide_eq_true hlt; omega
    obtain ⟨ad, sq, en, ha, hc, hN⟩ := h.nodN (i := i) (by omega)
    have hmem : t.getD i default ∈ t := by rw [getD_at (by omega)]; exact List.getElem_mem _
    have hle := h5 _ hmem
    have htk : (allS (t.take i)).length ≤ 5 * 12 := Nat.le_trans (allS_len fun n hn => h5 n (List.mem_of_mem_take hn)) (Nat.mul_le_mul_left _ (by simp; omega))
    have hpre := allS_prefix t (i + 1)
    rw [allS_take (by omega)] at hpre
    refine ⟨by omega, by omega, ad, ha, _, _, _, sq, en, cellsAt_mono hV1' hc, fun _ => ?_⟩
    generalize hnd : t.getD i default = nd at *
    have hsn := hN.seqs.n
    refine loop1 (k := .int .i64) (fun (x : Int) V' => ∃ k : Nat, x = k ∧ k ≤ nd.seqs.length ∧ CountM V' r (allS (t.take i) ++ nd.seqs.take k) ∧ apartL (allS (t.take i) ++ nd.seqs.take k) = true ∧ V.Le (V'.hide r)) (fun (x : Int) _ => nd.seqs.length - x.toNat) ⟨0, rfl, by omega, by simpa using hs1, by simpa using hp1, hV1⟩ ?_
    rintro (x : Int) V2 ⟨k, rfl, hk, hs2, hp2, hV2⟩
    have hV2' : V.Le V2 := hV2.trans (View.hide_le _ _)
    refine br_intro (fun hlt => ?_) (fun hge => ?_)
    · have hlt : k < nd.seqs.length := by have := of_decide_eq_true hlt; omega
      obtain ⟨ad, ha, hc, hin⟩ := (hN.seqs.mono hV2').intN hlt
      refine ⟨by omega, by omega, ad, ha, _, hc, ?_⟩
      have etk : nd.seqs.take (k + 1) = nd.seqs.take k ++ [nd.seqs.getD k 0] := by rw [List.take_add_one, List.getElem?_eq_getElem hlt, getD_at0 hlt]; rfl
      have hpre2 : allS (t.take i) ++ nd.seqs.take (k + 1) <+: allS t := by
        refine List.IsPrefix.trans ?_ hpre
        rw [List.prefix_append_right_inj]
        exact List.take_prefix _ _
      rw [etk, ← List.append_assoc] at hpre2
      generalize hx : nd.seqs.getD k 0 = x at *
      obtain ⟨es, cl, f, hse, hmf, hfd, hbump⟩ := hs2.bump x
      have hcl : (allS (t.take i) ++ nd.seqs.take k).count x ≤ 65 := by
        refine Nat.le_trans List.count_le_length ?_
        simp only [List.length_append, List.length_take]; omega
      refine ⟨trivial, es, cl, f, hse, hmf, _, hfd, inI64 (by omega) (by omega), trivial, r, es, cl, f, rfl, hse, hmf, ?_⟩
      dsimp only
      have hV3 : V.Le ((V2.put r (mput es cl f (.int .i64 x) (.int .i64 (((allS (t.take i) ++ nd.seqs.take k).count x : Int) + 1)))).hide r) := hV2.trans (hide_le_put_hide r _)
      generalize (V2.put r (mput es cl f (.int .i64 x) (.int .i64 (((allS (t.take i) ++ nd.seqs.take k).count x : Int) + 1)))) = V3 at *
      refine joinP_cut (fun q V' => q.1 = !apartL (allS (t.take i) ++ nd.seqs.take k ++ [x]) ∧ V' = V3) (br_intro (fun hx0 => ?_) (fun hx0 => ⟨?_, rfl⟩)) ?_
      · obtain ⟨es, cl, f, h1, h2, h3⟩ := hbump.look x
        refine ⟨trivial, es, cl, f, h1, h2, _, h3, ?_, rfl⟩
        rw [apart_snoc hp2, hx0]
        simp only [Bool.true_and, Bool.not_not]
        exact decide_eq_decide.2 (by omega)
      · rw [apart_snoc hp2, hx0]; rfl
      · rintro ⟨q, ⟨⟩⟩ V4 ⟨h1, hV⟩
        simp only at h1 hV
        subst h1 hV
        dsimp only [unc]
        refine br_intro (fun hb => ⟨?_, hV3.trans (View.hide_le _ _)⟩) (fun hb => ⟨inI64 (by omega) (by omega), ⟨k + 1, by omega, by omega, ?_, ?_, hV3⟩, by omega⟩)
        · rw [apart_prefix hpre2 (not_t hb)]
        · rw [etk, ← List.append_assoc]; exact hbump
        · rw [etk, ← List.append_assoc]; exact not_f hb
    · have hge : k = nd.seqs.length := by have := of_decide_eq_false hge; omega
      subst hge
      rw [List.take_length] at hs2 hp2
      refine ⟨inI64 (by omega) (by omega), ⟨i + 1, by omega, by omega, ?_, ?_, hV2⟩, by omega⟩
      · rw [allS_take (by omega), hnd]; exact hs2
      · rw [allS_take (by omega), hnd]; exact hp2
  · have hge : i = 12 := by have := of_decide_eq_false hge; omega
    subst hge
    rw [List.take_of_length_le (by omega)] at hp1
    exact ⟨by rw [hp1], hV1'⟩
end Go.Proofs.YtdlgpolngnkiaaaDoor

/- The contract of dir.May. -/
namespace Go.Proofs.YtdlgpolngnkiaaaDoor
open Go
theorem mayN_seqs {n : Nod} (h : mayN n = true) : n.seqs.length ≤ 5 := by
  unfold mayN at h
  split at h
  · simp at h; rw [h.1.2]; simp
  · split at h
    · unfold fileB at h; simp at h; omega
    · split at h
      · simp at h; rw [h.1.2]; simp
      · cases h
theorem mayT_ok {s : Sl} {t : Tre} {V : View} (h : SlR V s t) : CallV Tryd.prog 31 ⟨[treV s]⟩ V fun r V' => r = .bool (mayT t) ∧ V.Le V' := by
  refine f31_x ?_
  unfold f31_n
  have hn := h.n
  refine fun _ => joinP_cut (fun q V' => q.1 = (!(decide (t.length = 12) && t.all mayN && decide ((t.getD 0 default).kind = 2))) ∧ V' = V) (br_intro (fun hb => ⟨?_, rfl⟩) (fun hb => ?_)) ?_
  · have hb : ¬ t.length = 12 := by have := of_decide_eq_false (not_t hb); omega
    rw [decide_eq_false hb]; rfl
  · have hb : t.length = 12 := by have := of_decide_eq_true (not_f hb); omega
    refine (containsFuncN_ok (p := fun n => !mayN n) h fun n _ a b hN => ?_).mono ?_
    · exact may1_ok hN
    · rintro r V' ⟨rfl, rfl⟩
      have e1 : (t.any fun n => !mayN n) = !t.all mayN := by rw [List.any_eq_not_all_not]; simp
      refine ⟨_, rfl, br_intro (fun h1 => ⟨?_, rfl⟩) (fun h1 => ?_)⟩
      · rw [e1] at h1
        rw [not_t h1, Bool.and_false]; rfl
      · rw [e1] at h1
        obtain ⟨ad, sq, en, ha, hc, hN⟩ := h.nodN (i := 0) (by omega)
        refine ⟨by omega, by omega, ad, ha, _, cellsAt_nth hc 0 rfl, ?_, rfl⟩
        rw [decide_eq_true hb, not_f h1]; rfl
  · rintro ⟨q, ⟨⟩⟩ V1 ⟨h1, hV⟩
    simp only at h1 hV
    subst h1 hV
    dsimp only [unc]
    refine br_intro (fun hb => ⟨?_, View.Le.refl _⟩) (fun hb => ?_)
    · have hb := not_t hb
      unfold mayT
      have : (decide (t.length = 12) && t.all mayN && decide ((t.getD 0 default).kind = 2)) = false := by simpa using hb
      rw [this]; rfl
    · have hb := not_f hb
      have h3 : (decide (t.length = 12) && t.all mayN && decide ((t.getD 0 default).kind = 2)) = true := hb
      have hM : mayT t = ((List.range 12).all (fun i => hangB (t.getD i default) i ((cnt 12 (allE t)).getD i 0) (metB t 0 i)) && apartL (allS t)) := by
        unfold mayT; rw [h3, Bool.true_and]
      rw [hM]
      simp only [Bool.and_eq_true, decide_eq_true_eq, List.all_eq_true] at h3
      obtain ⟨⟨h12, hall⟩, _⟩ := h3
      have hE : ∀ n ∈ t, n.ents.length ≤ 10 := fun n hn => mayL_len (mayN_ents (hall n hn))
      have hnode : ∀ n ∈ t, ∀ e ∈ n.ents, 0 ≤ e.node ∧ e.node < 12 := fun n hn e he => by
        have := mayL_node (mayN_ents (hall n hn)) he; omega
      refine ⟨trivial, V1, View.Le.refl _, (names_ok h h12 hE).mono ?_⟩
      rintro r V2 ⟨x, rfl, hx, hV2⟩
      refine ⟨x, rfl, hV2, (below_ok (a := 0) (h.mono hV2) h12 (by decide) hnode).mono ?_⟩
      rintro r V3 ⟨y, rfl, hy, hV3⟩
      refine ⟨y, rfl, ?_⟩
      have hx3 := hx.mono hV3
      refine loop1 (k := .int .i64) (fun (x : Int) V' => V' = V3 ∧ ∃ i : Nat, x = i ∧ i ≤ 12 ∧ (List.range i).all (fun i => hangB (t.getD i default) i ((cnt 12 (allE t)).getD i 0) (metB t 0 i)) = true) (fun (x : Int) _ => 12 - x.toNat) ⟨rfl, 0, rfl, by omega, rfl⟩ ?_
      rintro (i : Int) V4 ⟨rfl, i, rfl, hi, hP⟩
      have hV14 := hV2.trans hV3
      refine br_intro (fun hlt => ?_) (fun hge => ?_)
      · have hlt : i < 12 := by have := of_decide_eq_true hlt; omega
        obtain ⟨ad, sq, en, ha, hc, hN⟩ := (h.mono hV14).nodN (i := i) (by omega)
        obtain ⟨ad2, ha2, hc2, _⟩ := hx3.intN (i := i) (by rw [cnt_len]; exact hlt)
        obtain ⟨ad3, hx', ha3, hc3⟩ := hy.bool (x := (i : Int)) (by omega) (by have := hy.n; simp at this; omega)
        have e3 : ((List.range 12).map (metB t 0))[((i : Int)).toNat] = metB t 0 i := by simp
        rw [e3] at hc3
        have hxn := hx3.n
        rw [cnt_len] at hxn
        have hyn := hy.n
        simp only [List.length_map, List.length_range] at hyn
        refine ⟨by omega, by omega, ad, ha, _, _, _, sq, en, hc, fun _ => ⟨trivial, V4, View.Le.refl _, by omega, by omega, ad2, ha2, _, hc2, by omega, by omega, ad3, ha3, _, hc3, hangs_ok.mono ?_⟩⟩
        rintro r V5 ⟨rfl, rfl⟩
        refine ⟨_, rfl, br_intro (fun hb => ⟨?_, hV14⟩) (fun hb => ⟨inI64 (by omega) (by omega), ⟨rfl, i + 1, by omega, by omega, all_step hP (not_f hb)⟩, by omega⟩)⟩
        rw [all_stop hlt (not_t hb)]; rfl
      · have hge : i = 12 := by have := of_decide_eq_false hge; omega
        subst hge
        refine (apart_ok (h.mono hV14) h12 fun n hn => mayN_seqs (hall n hn)).mono ?_
        rintro r V5 ⟨rfl, hV5⟩
        refine ⟨_, rfl, ?_, hV14.trans hV5⟩
        rw [hP, Bool.true_and]
end Go.Proofs.YtdlgpolngnkiaaaDoor

/- Numbers and texts as bytes: plain functions and what they answer. No program in this text. -/
namespace Go.Proofs.YtdlgpolngnkiaaaDoor
/-- The digits of a number ahead of its last one, the greatest first. -/
def hiL : Nat → Nat → List UInt8
  | 0, _ => []
  | f + 1, n => if n = 0 then [] else hiL f (n / 128) ++ [UInt8.ofNat (n % 128 + 128)]
/-- A number as bytes. -/
def numL (n : Nat) : List UInt8 := hiL 6 (n / 128) ++ [UInt8.ofNat (n % 128)]
/-- What is laid for a number that is handed in. -/
def clampN (n : Int) : Nat := (min (max n 0) 1099511627776).toNat
def numI (n : Int) : List UInt8 := numL (clampN n)
/-- A number in front, and what is behind it. -/
def numGo (most : Nat) : Nat → Nat → List UInt8 → Option (Nat × List UInt8)
  | 0, _, _ => none
  | _, _, [] => none
  | f + 1, m, c :: b => if 128 ≤ c.toNat then numGo most f (m * 128 + c.toNat % 128) b else if most < m * 128 + c.toNat % 128 then none else some (m * 128 + c.toNat % 128, b)
theorem numGo_cons (most f m : Nat) (c : UInt8) (b : List UInt8) : numGo most (f + 1) m (c :: b) = if 128 ≤ c.toNat then numGo most f (m * 128 + c.toNat % 128) b else if most < m * 128 + c.toNat % 128 then none else some (m * 128 + c.toNat % 128, b) := rfl
def numP (most : Nat) (b : List UInt8) : Option (Nat × List UInt8) :=
  match b with
  | [] => none
  | c :: r => if c.toNat = 128 then none else numGo most 6 0 (c :: r)
theorem hiL_len : ∀ (f n : Nat), (hiL f n).length ≤ f
  | 0, _ => Nat.le_refl _
  | f + 1, n => by
    unfold hiL
    split
    · simp
    · have := hiL_len f (n / 128)
      simp; omega
theorem hiL_bound : ∀ (f n : Nat), n < 128 ^ f → hiL f n = hiL (f + 1) n
  | 0, n, h => by
    have : n = 0 := by simpa using h
    subst this; rfl
  | f + 1, n, h => by
    by_cases h0 : n = 0
    · subst h0; rfl
    · rw [hiL, hiL, if_neg h0, if_neg h0, hiL_bound f (n / 128) (Nat.div_lt_of_lt_mul (by rw [Nat.pow_succ] at h; omega))]
theorem toNat_ofNat_lt {n : Nat} (h : n < 256) : (UInt8.ofNat n).toNat = n := by rw [UInt8.toNat_ofNat']; omega
/-- Reading goes through the digits ahead. -/
theorem numGo_hi (most : Nat) : ∀ (f n : Nat) (g m : Nat) (r : List UInt8), n < 128 ^ f → (hiL f n).length ≤ g →
    numGo most g m (hiL f n ++ r) = numGo most (g - (hiL f n).length) (m * 128 ^ (hiL f n).length + n) r
  | 0, n, g, m, r, h, _ => by
    have : n = 0 := by simpa using h
    subst this
    simp [hiL]
  | f + 1, n, g, m, r, h, hg => by
    by_cases h0 : n = 0
    · subst h0; simp [hiL]
    · have hd : n / 128 < 128 ^ f := Nat.div_lt_of_lt_mul (by rw [Nat.pow_succ] at h; omega)
      have e : hiL (f + 1) n = hiL f (n / 128) ++ [UInt8.ofNat (n % 128 + 128)] := by rw [hiL, if_neg h0]
      rw [e] at hg ⊢
      simp only [List.length_append, List.length_cons, List.length_nil, Nat.zero_add] at hg ⊢
      rw [List.append_assoc, numGo_hi most f (n / 128) g m _ hd (by omega)]
      obtain ⟨k, hk⟩ : ∃ k, g - (hiL f (n / 128)).length = k + 1 := ⟨g - (hiL f (n / 128)).length - 1, by omega⟩
      rw [hk, List.singleton_append, numGo_cons]
      have h1 : (UInt8.ofNat (n % 128 + 128)).toNat = n % 128 + 128 := toNat_ofNat_lt (by omega)
      have e3 : (m * 128 ^ (hiL f (n / 128)).length + n / 128) * 128 + (n % 128 + 128) % 128 = m * 128 ^ ((hiL f (n / 128)).length + 1) + n := by
        rw [Nat.pow_succ, ← Nat.mul_assoc, Nat.add_mul]
        omega
      rw [h1, if_pos (by omega), show g - ((hiL f (n / 128)).length + 1) = k by omega, e3]
theorem hiL_head : ∀ (f n : Nat), n < 128 ^ f → ∀ c r, hiL f n = c :: r → 128 < c.toNat
  | 0, n, _, c, r, e => by simp [hiL] at e
  | f + 1, n, h, c, r, e => by
    unfold hiL at e
    split at e
    · simp at e
    · rename_i h0
      have hd : n / 128 < 128 ^ f := Nat.div_lt_of_lt_mul (by rw [Nat.pow_succ] at h; omega)
      cases hh : hiL f (n / 128) with
      | nil =>
        rw [hh] at e
        simp only [List.nil_append, List.cons.injEq] at e
        have hz : n / 128 = 0 := by
          cases f with
          | zero => simpa using hd
          | succ f =>
            apply Classical.byContradiction
            intro hne
            rw [hiL, if_neg hne] at hh
            simp at hh
        rw [← e.1, toNat_ofNat_lt (by omega)]
        omega
      | cons d s =>
        rw [hh] at e
        simp only [List.cons_append, List.cons.injEq] at e
        rw [← e.1]
        exact hiL_head f _ hd d s hh
theorem num_lt {n : Nat} (h : n ≤ 1099511627776) : n / 128 < 128 ^ 5 := by
  have : (128 : Nat) ^ 5 = 34359738368 := by decide
  omega
theorem hi_len5 {n : Nat} (h : n ≤ 1099511627776) : (hiL 6 (n / 128)).length ≤ 5 := by
  rw [← hiL_bound 5 _ (num_lt h)]
  exact hiL_len 5 _
/-- What is laid is read as it was. -/
theorem numP_numL {n most : Nat} (h : n ≤ 1099511627776) (hm : n ≤ most) (r : List UInt8) : numP most (numL n ++ r) = some (n, r) := by
  have hb : n / 128 < 128 ^ 6 := Nat.lt_of_lt_of_le (num_lt h) (Nat.pow_le_pow_right (by decide) (by decide))
  have hgo : numGo most 6 0 (numL n ++ r) = some (n, r) := by
    unfold numL
    rw [List.append_assoc, numGo_hi most 6 (n / 128) 6 0 _ hb (by have := hi_len5 h; omega)]
    obtain ⟨k, hk⟩ : ∃ k, 6 - (hiL 6 (n / 128)).length = k + 1 := ⟨6 - (hiL 6 (n / 128)).length - 1, by have := hi_len5 h; omega⟩
    rw [hk, List.singleton_append, Nat.zero_mul, Nat.zero_add, numGo_cons]
    rw [toNat_ofNat_lt (by omega), if_neg (by omega), Nat.mod_mod, Nat.mul_comm, Nat.div_add_mod, if_neg (by omega)]
  unfold numP
  cases hc : numL n ++ r with
  | nil => unfold numL at hc; simp at hc
  | cons c s =>
    rw [← hc]
    simp only [hc]
    rw [if_neg, ← hc, hgo]
    unfold numL at hc
    cases hh : hiL 6 (n / 128) with
    | nil =>
      rw [hh] at hc
      simp only [List.nil_append, List.cons_append, List.cons.injEq] at hc
      rw [← hc.1, toNat_ofNat_lt (by omega)]
      omega
    | cons d t =>
      rw [hh] at hc
      simp only [List.cons_append, List.cons.injEq] at hc
      have := hiL_head 6 _ hb d t hh
      rw [← hc.1]
      omega
/-- What is read was laid so. -/
theorem numGo_inv (most : Nat) : ∀ (g m : Nat) (b : List UInt8) (n : Nat) (r : List UInt8), numGo most g m b = some (n, r) →
    n ≤ most ∧ ∃ ds : List UInt8, ∃ c : UInt8, b = ds ++ c :: r ∧ c.toNat < 128 ∧ ds.length < g ∧ (∀ d ∈ ds, 128 ≤ d.toNat) ∧ n = (ds.foldl (fun a d => a * 128 + d.toNat % 128) m) * 128 + c.toNat
  | 0, m, b, n, r, h => by simp [numGo] at h
  | g + 1, m, [], n, r, h => by simp [numGo] at h
  | g + 1, m, c :: b, n, r, h => by
    rw [numGo_cons] at h
    split at h
    · rename_i hc
      obtain ⟨h1, ds, c', h2, h3, h4, h5, h6⟩ := numGo_inv most g _ b n r h
      refine ⟨h1, c :: ds, c', by rw [h2]; rfl, h3, by simp; omega, fun d hd => ?_, h6⟩
      rcases List.mem_cons.1 hd with rfl | hd
      · exact hc
      · exact h5 d hd
    · rename_i hc
      split at h
      · cases h
      · rename_i hm
        cases h
        exact ⟨by omega, [], c, rfl, by omega, by simp, by simp, by simp; omega⟩
theorem fold_hi : ∀ (f : Nat) (ds : List UInt8), ds.length ≤ f → (∀ d ∈ ds, 128 ≤ d.toNat) → (∀ d r, ds = d :: r → d.toNat ≠ 128) → hiL f (ds.foldl (fun a d => a * 128 + d.toNat % 128) 0) = ds
  | f, ds, hf, hall, hhd => by
    induction f generalizing ds with
    | zero =>
      have : ds = [] := List.eq_nil_of_length_eq_zero (by omega)
      subst this; rfl
    | succ f ih =>
      rcases List.eq_nil_or_concat ds with rfl | ⟨ds', c, rfl⟩
      · rfl
      · rw [List.concat_eq_append] at *
        rw [List.foldl_append]
        simp only [List.foldl_cons, List.foldl_nil]
        have hc := hall c (by simp)
        have hc2 : c.toNat < 256 := c.toNat_lt
        have hdiv : (ds'.foldl (fun a d => a * 128 + d.toNat % 128) 0 * 128 + c.toNat % 128) / 128 = ds'.foldl (fun a d => a * 128 + d.toNat % 128) 0 := by omega
        have hmod : (ds'.foldl (fun a d => a * 128 + d.toNat % 128) 0 * 128 + c.toNat % 128) % 128 + 128 = c.toNat := by omega
        have hne : ds'.foldl (fun a d => a * 128 + d.toNat % 128) 0 * 128 + c.toNat % 128 ≠ 0 := by
          intro h0
          have h1 : ds'.foldl (fun a d => a * 128 + d.toNat % 128) 0 = 0 := by omega
          have h2 := ih ds' (by simp at hf; omega) (fun d hd => hall d (by simp [hd])) (fun d r e => hhd d (r ++ [c]) (by rw [e]; rfl))
          rw [h1] at h2
          have h3 : ds' = [] := by
            cases f with
            | zero => exact h2.symm
            | succ f => rw [hiL, if_pos rfl] at h2; exact h2.symm
          subst h3
          exact hhd c [] rfl (by simp at h0; omega)
        rw [hiL, if_neg hne, hdiv, hmod, ih ds' (by simp at hf; omega) (fun d hd => hall d (by simp [hd])) (fun d r e => hhd d (r ++ [c]) (by rw [e]; rfl))]
        congr 2
        exact UInt8.ofNat_toNat
theorem numL_numP {most : Nat} {b : List UInt8} {n : Nat} {r : List UInt8} (h : numP most b = some (n, r)) : n ≤ most ∧ b = numL n ++ r := by
  unfold numP at h
  split at h
  · cases h
  · rename_i c0 b0
    split at h
    · cases h
    · rename_i h128
      obtain ⟨h1, ds, c, h2, h3, h4, h5, h6⟩ := numGo_inv most 6 0 _ n r h
      refine ⟨h1, ?_⟩
      have hds := fold_hi 6 ds (by omega) h5 (fun d s e => by
        subst e
        rw [List.cons_append, List.cons.injEq] at h2
        rw [← h2.1]; exact h128)
      unfold numL
      rw [h6, h2]
      rw [show (ds.foldl (fun a d => a * 128 + d.toNat % 128) 0 * 128 + c.toNat) / 128 = ds.foldl (fun a d => a * 128 + d.toNat % 128) 0 by omega, hds,
        show (ds.foldl (fun a d => a * 128 + d.toNat % 128) 0 * 128 + c.toNat) % 128 = c.toNat by omega, UInt8.ofNat_toNat, List.append_assoc]
      rfl
/-- A text behind its length. -/
def textL (s : List UInt8) : List UInt8 := numI s.length ++ s
def textP (most : Nat) (b : List UInt8) : Option (List UInt8 × List UInt8) :=
  match numP most b with
  | none => none
  | some (n, r) => if r.length < n then none else some (r.take n, r.drop n)
end Go.Proofs.YtdlgpolngnkiaaaDoor

/- Contracts of package bytes. -/
namespace Go.Proofs.YtdlgpolngnkiaaaDoor
open Go
/-- Bytes as cells. -/
def u8s (l : List UInt8) : List Value := l.map fun b => .int .u8 b.toNat
theorem u8s_append (l m : List UInt8) : u8s (l ++ m) = u8s l ++ u8s m := List.map_append
theorem u8s_len (l : List UInt8) : (u8s l).length = l.length := List.length_map _
theorem u8s_one (l : List UInt8) : (u8s l).all Value.oneCell' = true := by
  rw [List.all_eq_true]
  intro v hv
  obtain ⟨b, _, rfl⟩ := List.mem_map.1 hv
  rfl
theorem u8s_rep {W : View} : ∀ l : List UInt8, repL W (u8s l) l
  | [] => rfl
  | b :: l => ⟨[.int .u8 b.toNat], u8s l, rfl, rfl, u8s_rep l⟩
theorem repL_u8 {W : View} : ∀ {cs : List Value} {l : List UInt8}, repL W cs l → cs = u8s l
  | _, [], h => h
  | _, b :: l, ⟨vs, us, e, h1, h2⟩ => by
    have h1 : vs = [Value.int .u8 b.toNat] := h1
    rw [e, h1, repL_u8 h2]; rfl
theorem SlR.row8 {V : View} {s : Sl} {l : List UInt8} (h : SlR V s l) : rowAt V s.a (s.n * 1) (u8s l) := by
  obtain ⟨cs, h1, h2⟩ := h.row
  rw [repL_u8 h2] at h1
  exact h1
/-- Bytes that a call made: in a row of its own. -/
structure Fresh8 (V V' : View) (x : Sl) (l : List UInt8) : Prop where
  buf : Buf V' x 5 1 (u8s l)
  le : V.Le (V'.minus x)
theorem Fresh8.slR {V V' : View} {x : Sl} {l : List UInt8} (h : Fresh8 V V' x l) : SlR V' x l := h.buf.slR (W := V) (u8s_rep l) (h.le.trans (View.minus_le _ _))
theorem Fresh8.vle {V V' : View} {x : Sl} {l : List UInt8} (h : Fresh8 V V' x l) : V.Le V' := h.le.trans (View.minus_le _ _)
theorem flat_len8 : ∀ (ls : List (List UInt8)) (i : Nat), (ls.take i).flatten.length ≤ ls.flatten.length
  | [], i => by simp
  | x :: ls, 0 => by simp
  | x :: ls, i + 1 => by
    have := flat_len8 ls i
    simp only [List.take_succ_cons, List.flatten_cons, List.length_append]
    omega
theorem SlR.sl8 {V : View} {s : Sl} {ls : List (List UInt8)} (h : SlR V s ls) {x : Int} (h0 : 0 ≤ x) (h1 : x < s.n) :
    ∃ ad, ∃ y : Sl, ∃ hx : x.toNat < ls.length, s.a = some ad ∧ V.cell? (ad.add (x.toNat * 1)) = some (.slice y.a y.n y.c) ∧ SlR V y ls[x.toNat] := by
  obtain ⟨ad, vs, hx, ha, hc, y, rfl, hy⟩ := h.ld h0 h1
  exact ⟨ad, y, hx, ha, cellsAt_one.1 hc, hy⟩
/-- Digits, the least first. -/
def loL : Nat → Nat → List UInt8
  | 0, _ => []
  | f + 1, n => if n = 0 then [] else UInt8.ofNat (n % 128 + 128) :: loL f (n / 128)
theorem loL_rev : ∀ (f n : Nat), (loL f n).reverse = hiL f n
  | 0, _ => rfl
  | f + 1, n => by
    unfold loL hiL
    split
    · rfl
    · rw [List.reverse_cons, loL_rev f]
theorem numL_rev (n : Nat) : (UInt8.ofNat (n % 128) :: loL 6 (n / 128)).reverse = numL n := by
  rw [List.reverse_cons, loL_rev]; rfl
theorem loL_len : ∀ (f n : Nat), (loL f n).length ≤ f := fun f n => by rw [← List.length_reverse, loL_rev]; exact hiL_len f n
theorem numL_len (n : Nat) : (numL n).length ≤ 7 := by
  unfold numL
  have := hiL_len 6 (n / 128)
  simp; omega
theorem wrap_u8 {n : Int} (h0 : 0 ≤ n) (h1 : n ≤ 255) : IntKind.u8.wrap n = n := by
  unfold IntKind.wrap
  simp [IntKind.signed, IntKind.bits]
  omega
theorem clamp_eq (n : Int) : (if (1099511627776 : Int) < (if (0 : Int) > n then 0 else n) then (1099511627776 : Int) else if (0 : Int) > n then 0 else n) = (clampN n : Int) := by
  unfold clampN
  split <;> split <;> omega
theorem clampN_le (n : Int) : clampN n ≤ 1099511627776 := by unfold clampN; omega
theorem numI_len (n : Int) : (numI n).length ≤ 7 := numL_len _
/-- Numbers behind one another. -/
def numsL (l : List Int) : List UInt8 := (l.map numI).flatten
theorem numsL_append (l m : List Int) : numsL (l ++ m) = numsL l ++ numsL m := by simp [numsL]
theorem numsL_one (n : Int) : numsL [n] = numI n := by simp [numsL]
theorem numsL_len : ∀ l : List Int, (numsL l).length ≤ 7 * l.length
  | [] => by simp [numsL]
  | n :: l => by
    have h1 := numI_len n
    have h2 := numsL_len l
    have e : numsL (n :: l) = numI n ++ numsL l := rfl
    rw [e, List.length_append, List.length_cons]
    omega
end Go.Proofs.YtdlgpolngnkiaaaDoor

/- Contracts of bytes.Reader. -/
namespace Go.Proofs.YtdlgpolngnkiaaaDoor
open Go
/-- What a reader's cells are. -/
def RdC (V : View) (p : Nat) (s : Sl) (e : Int) : Prop := ∃ ty, V.see p = some (.cells ⟨[.slice s.a s.n s.c, .int .i64 e]⟩ ty (0, 0))
/-- A reader: what is left; none: there was an error. -/
def Rd (V : View) (p : Nat) (st : Option (List UInt8)) : Prop :=
  ∃ (s : Sl) (e : Int) (bs : List UInt8), RdC V p s e ∧ SlR (V.hide p) s bs ∧ bs.length ≤ 140737488350000 ∧ (st = some bs ∧ e = 0 ∨ st = none ∧ e = 5)
theorem RdC.c0 {V : View} {p : Nat} {s : Sl} {e : Int} (h : RdC V p s e) : V.cell? ((⟨p, 0, none⟩ : Addr).add 0) = some (.slice s.a s.n s.c) := by
  obtain ⟨ty, h⟩ := h
  exact cell_of_see h rfl
theorem RdC.c1 {V : View} {p : Nat} {s : Sl} {e : Int} (h : RdC V p s e) : V.cell? ((⟨p, 0, none⟩ : Addr).add 1) = some (.int .i64 e) := by
  obtain ⟨ty, h⟩ := h
  exact cell_of_see h rfl
theorem RdC.set1 {V : View} {p : Nat} {s : Sl} {e : Int} (h : RdC V p s e) (e' : Int) : canSet V ((⟨p, 0, none⟩ : Addr).add 1) 1 ∧ RdC (V.sets ((⟨p, 0, none⟩ : Addr).add 1) [.int .i64 e']) p s e' ∧ (V.hide p).Le ((V.sets ((⟨p, 0, none⟩ : Addr).add 1) [.int .i64 e']).hide p) := by
  obtain ⟨ty, h⟩ := h
  have e1 : (⟨p, 0, none⟩ : Addr).add 1 = ⟨p, 1, none⟩ := rfl
  rw [e1, sets_see h]
  exact ⟨canSet_of h (show 1 + 1 ≤ 2 by decide), ⟨ty, by rw [View.see_put_same]; rfl⟩, hide_le_put_hide p _⟩
theorem RdC.set0 {V : View} {p : Nat} {s : Sl} {e : Int} (h : RdC V p s e) (s' : Sl) : canSet V ((⟨p, 0, none⟩ : Addr).add 0) 1 ∧ RdC (V.sets ((⟨p, 0, none⟩ : Addr).add 0) [.slice s'.a s'.n s'.c]) p s' e ∧ (V.hide p).Le ((V.sets ((⟨p, 0, none⟩ : Addr).add 0) [.slice s'.a s'.n s'.c]).hide p) := by
  obtain ⟨ty, h⟩ := h
  have e1 : (⟨p, 0, none⟩ : Addr).add 0 = ⟨p, 0, none⟩ := rfl
  rw [e1, sets_see h]
  exact ⟨canSet_of h (show 0 + 1 ≤ 2 by decide), ⟨ty, by rw [View.see_put_same]; rfl⟩, hide_le_put_hide p _⟩
theorem Rd.mono {V V' : View} {p : Nat} {st : Option (List UInt8)} (h : Rd V p st) (hV : V.Le V') : Rd V' p st := by
  obtain ⟨s, e, bs, ⟨ty, h1⟩, h2, h3, h4⟩ := h
  have hh : (V.hide p).Le (V'.hide p) := by
    refine ⟨hV.size, fun i o ho => ?_, hV.out⟩
    unfold View.hide at *
    simp only at *
    split at ho
    · cases ho
    · rename_i hne; rw [if_neg hne]; exact hV.see i o ho
  exact ⟨s, e, bs, ⟨ty, hV.see _ _ h1⟩, h2.mono hh, h3, h4⟩
/-- What 'number' answers. -/
def numR (most : Nat) (b : List UInt8) : Int × Nat := match numP most b with
  | none => (0, 0)
  | some (n, r) => (n, b.length - r.length)
theorem numGo_len (most : Nat) : ∀ (g m : Nat) (b : List UInt8) (n : Nat) (r : List UInt8), numGo most g m b = some (n, r) → ∃ k, 1 ≤ k ∧ k ≤ b.length ∧ r = b.drop k
  | 0, m, b, n, r, h => by simp [numGo] at h
  | g + 1, m, [], n, r, h => by simp [numGo] at h
  | g + 1, m, c :: b, n, r, h => by
    rw [numGo_cons] at h
    split at h
    · obtain ⟨k, h1, h2, h3⟩ := numGo_len most g _ b n r h
      exact ⟨k + 1, by omega, by simp; omega, by rw [h3]; rfl⟩
    · split at h
      · cases h
      · cases h; exact ⟨1, by omega, by simp, rfl⟩
theorem numP_len {most : Nat} {b : List UInt8} {n : Nat} {r : List UInt8} (h : numP most b = some (n, r)) : ∃ k, 1 ≤ k ∧ k ≤ b.length ∧ r = b.drop k := by
  unfold numP at h
  split at h
  · cases h
  · split at h
    · cases h
    · exact numGo_len most 6 0 _ n r h
theorem numP_le {most : Nat} {b : List UInt8} {n : Nat} {r : List UInt8} (h : numP most b = some (n, r)) : n ≤ most := (numL_numP h).1
/-- A reader's number. -/
def rdN (st : Option (List UInt8)) (most : Nat) : Int × Option (List UInt8) := match st with
  | none => (0, none)
  | some b => match numP most b with
    | none => (0, none)
    | some (n, r) => (n, some r)
def rdT (st : Option (List UInt8)) (most : Nat) : List UInt8 × Option (List UInt8) := match st with
  | none => ([], none)
  | some b => match textP most b with
    | none => ([], none)
    | some (t, r) => (t, some r)
theorem rdN_range (st : Option (List UInt8)) (most : Nat) : 0 ≤ (rdN st most).1 ∧ (rdN st most).1 ≤ most := by
  unfold rdN
  split
  · exact ⟨by simp, by simp⟩
  · split
    · exact ⟨by simp, by simp⟩
    · rename_i h; have := numP_le h; exact ⟨by simp, by simpa using this⟩
theorem sub_from {V : View} {s : Sl} {l : List UInt8} (h : SlR V s l) {k : Nat} (hk : k ≤ l.length) : SlR V ⟨if s.c = k then s.a else Option.map (fun (x : Addr) => x.add (k * 1)) s.a, s.n - k, s.c - k⟩ (l.drop k) := by
  have := h.sub (i := k) (j := l.length) hk (Nat.le_refl _)
  rw [List.take_length] at this
  rw [h.n]
  exact this
/-- A call that does not need block p leaves it as it was. -/
theorem CallV.beside {P : Program} {f : FuncId} {args : Array Value} {V : View} {p : Nat} {K : Value → View → Prop} {o : Obj} (h : CallV P f args (V.hide p) K) (ho : V.see p = some o) :
    CallV P f args V fun r V' => ∃ U', K r U' ∧ U'.Le (V'.hide p) ∧ V'.see p = some o := by
  refine (CallV.frame (View.hide_le V p) h).mono ?_
  rintro r V' ⟨U', hk, hle, hrest⟩
  have hp : (V.hide p).see p = none := by simp [View.hide]
  obtain ⟨h1, h2⟩ := hrest p o hp ho
  refine ⟨U', hk, ⟨hle.size, fun i x hx => ?_, hle.out⟩, h1⟩
  have hne : i ≠ p := fun e => by rw [e, h2] at hx; cases hx
  show (if i = p then none else View.see V' i) = some x
  rw [if_neg hne]; exact hle.see i x hx
end Go.Proofs.YtdlgpolngnkiaaaDoor

/- Contracts of what reads nodes. -/
namespace Go.Proofs.YtdlgpolngnkiaaaDoor
open Go
theorem loop6 {a b c d e f : K} {F : a.ty → b.ty → c.ty → d.ty → e.ty → f.ty → View → (a.ty → b.ty → c.ty → d.ty → e.ty → f.ty → View → Prop) → Prop} {x : a.ty} {y : b.ty} {z : c.ty} {u : d.ty} {v : e.ty} {w : f.ty} {V : View}
    (I : a.ty → b.ty → c.ty → d.ty → e.ty → f.ty → View → Prop) (m : a.ty → b.ty → c.ty → d.ty → e.ty → f.ty → View → Nat) (h0 : I x y z u v w V)
    (step : ∀ x y z u v w V, I x y z u v w V → F x y z u v w V fun x' y' z' u' v' w' V' => I x' y' z' u' v' w' V' ∧ m x' y' z' u' v' w' V' < m x y z u v w V) : loopP [a, b, c, d, e, f] F (x, y, z, u, v, w, ()) V :=
  loopP_inv (fun s V => I s.1 s.2.1 s.2.2.1 s.2.2.2.1 s.2.2.2.2.1 s.2.2.2.2.2.1 V) (fun s V => m s.1 s.2.1 s.2.2.1 s.2.2.2.1 s.2.2.2.2.1 s.2.2.2.2.2.1 V) h0 fun s V h => step s.1 s.2.1 s.2.2.1 s.2.2.2.1 s.2.2.2.2.1 s.2.2.2.2.2.1 V h
abbrev Stt := Option (List UInt8)
/-- Numbers, one behind the other. -/
def rdSeqs : Nat → Stt → List Int × Stt
  | 0, st => ([], st)
  | k + 1, st => ((rdSeqs k st).1 ++ [(rdN (rdSeqs k st).2 1099511627776).1], (rdN (rdSeqs k st).2 1099511627776).2)
/-- Entries, one behind the other. -/
def rdEnts : Nat → Stt → List Ent × Stt
  | 0, st => ([], st)
  | k + 1, st => ((rdEnts k st).1 ++ [⟨ba (rdT (rdEnts k st).2 8).1, (rdN (rdT (rdEnts k st).2 8).2 11).1⟩], (rdN (rdT (rdEnts k st).2 8).2 11).2)
def rdFile (st : Stt) : Nod × Stt :=
  (⟨1, (rdN st 120).1, (rdN (rdN st 120).2 80).1, (rdSeqs 5 (rdN (rdN st 120).2 80).2).1, []⟩, (rdSeqs 5 (rdN (rdN st 120).2 80).2).2)
def rdDir (st : Stt) : Nod × Stt :=
  (⟨2, 1, 0, [], (rdEnts (rdN st 10).1.toNat (rdN st 10).2).1⟩, (rdEnts (rdN st 10).1.toNat (rdN st 10).2).2)
/-- A node. -/
def rdNod (st : Stt) : Nod × Stt :=
  if (rdN st 2).1 = 1 then rdFile (rdN st 2).2 else if (rdN st 2).1 = 2 then rdDir (rdN st 2).2 else (⟨(rdN st 2).1, 0, 0, [], []⟩, (rdN st 2).2)
theorem rdT_size (st : Stt) (most : Nat) : (rdT st most).1.length ≤ most := by
  unfold rdT
  split
  · simp
  · split
    · simp
    · rename_i h
      unfold textP at h
      split at h
      · cases h
      · rename_i h2
        split at h
        · cases h
        · cases h
          have := numP_le h2
          simp; omega
theorem rdSeqs_len : ∀ (k : Nat) (st : Stt), (rdSeqs k st).1.length = k
  | 0, _ => rfl
  | k + 1, st => by simp [rdSeqs, rdSeqs_len k st]
theorem rdEnts_len : ∀ (k : Nat) (st : Stt), (rdEnts k st).1.length = k
  | 0, _ => rfl
  | k + 1, st => by simp [rdEnts, rdEnts_len k st]
/-- Cells of numbers need nothing. -/
structure intL (cs : List Value) (l : List Int) : Prop where
  rep : ∀ {W : View}, repL W cs l
theorem repL.int {W : View} : ∀ {cs : List Value} {l : List Int}, repL W cs l → intL cs l
  | _, [], h => ⟨h⟩
  | _, _ :: _, ⟨vs, us, e, h1, h2⟩ => ⟨⟨vs, us, e, h1, (repL.int h2).rep⟩⟩
structure entL (cs : List Value) (l : List Ent) : Prop where
  rep : ∀ {W : View}, repL W cs l
theorem repL.ent {W : View} : ∀ {cs : List Value} {l : List Ent}, repL W cs l → entL cs l
  | _, [], h => ⟨h⟩
  | _, _ :: _, ⟨vs, us, e, h1, h2⟩ => ⟨⟨vs, us, e, h1, (repL.ent h2).rep⟩⟩
/-- An element in a new block, appended to a row of one's own; a reader stands beside. -/
theorem app1 {α : Type} [Rep α] {V V0 : View} {p r : Nat} {st : Stt} {x : Sl} {e : TypeId} {bytes : Nat} {zero : List Value} {cs vs : List Value} {l : List α} {d : α} {C : Sl → View → Prop} {ob : Obj} {te : TypeId}
    (hz : zero.length = Rep.sz α) (hb : Buf V x e (Rep.sz α) cs) (hr : repL (V.minus x) cs l) (hd : Rep.rep (V.minus x) vs d) (hR : Rd (V.minus x) p st) (hle : V0.Le ((V.minus x).hide p)) (hnew : V.size ≤ r) (hob : ob = .cells ⟨vs⟩ te (0, 0))
    (hm : (x.n + 1) * bytes ≤ 140737488355328) (hm2 : x.n + 1 ≤ 140737488355328)
    (hC : ∀ s V' cs', Buf V' s e (Rep.sz α) cs' → repL (V'.minus s) cs' (l ++ [d]) → Rd (V'.minus s) p st → V0.Le ((V'.minus s).hide p) → C s V') :
    apV (V.put r ob) e (Rep.sz α) bytes zero x (.slice (some ⟨r, 0, none⟩) 1 1) C := by
  subst hob
  have hfr : V.see r = none := View.see_none_of_ge hnew
  have hvl : vs.length = Rep.sz α := Rep.len hd
  refine apV_buf hz (hb.put hfr) (src := vs) (m := 1) ⟨rfl, rowAt_new (View.see_put_same _ _ _) (by rw [Nat.one_mul]; exact hvl)⟩ (by rw [Nat.one_mul]; exact hvl) (Rep.one hd) hm hm2 fun s V' hb' _ hle' => ?_
  have h1 : (V.minus x).Le (V'.minus s) := (put_minus_le hfr).trans hle'
  exact hC s V' _ hb' ((hr.mono h1).snoc (Rep.mono h1 hd)) (hR.mono h1) (hle.trans (hide_mono h1 p))
end Go.Proofs.YtdlgpolngnkiaaaDoor

/- Trees as bytes: plain functions and what they answer. No program in this text. -/
namespace Go.Proofs.YtdlgpolngnkiaaaDoor
open Go
def encE (x : Ent) : List UInt8 := textL (bl x.name) ++ numI x.node
def encEs (l : List Ent) : List UInt8 := (l.map encE).flatten
/-- A node as bytes. -/
def encN (n : Nod) : List UInt8 :=
  numI n.kind ++ (if n.kind = 1 then numI n.links ++ numI n.size ++ numsL n.seqs else if n.kind = 2 then numI n.ents.length ++ encEs n.ents else [])
theorem encN_1 {n : Nod} (h : n.kind = 1) : encN n = numI 1 ++ (numI n.links ++ numI n.size ++ numsL n.seqs) := by unfold encN; rw [if_pos h, h]
theorem encN_2 {n : Nod} (h : n.kind = 2) : encN n = numI 2 ++ (numI n.ents.length ++ encEs n.ents) := by unfold encN; rw [if_neg (by omega), if_pos h, h]
theorem encN_0 {n : Nod} (h1 : ¬ n.kind = 1) (h2 : ¬ n.kind = 2) : encN n = numI n.kind := by unfold encN; rw [if_neg h1, if_neg h2, List.append_nil]
/-- A tree as bytes. -/
def encT (t : Tre) : List UInt8 := (t.map encN).flatten
/-- Nodes, one behind the other. -/
def rdTre : Nat → Stt → Tre × Stt
  | 0, st => ([], st)
  | k + 1, st => ((rdTre k st).1 ++ [(rdNod (rdTre k st).2).1], (rdNod (rdTre k st).2).2)
/-- The tree that bytes are. -/
noncomputable def parseT (l : List UInt8) : Option Tre :=
  if (rdTre 12 (some l)).2 = some [] ∧ mayT (rdTre 12 (some l)).1 = true then some (rdTre 12 (some l)).1 else none
theorem clampN_nat {n : Nat} (h : n ≤ 1099511627776) : clampN n = n := by unfold clampN; omega
theorem rdN_some {st : Stt} {most : Nat} {r : List UInt8} (h : (rdN st most).2 = some r) : ∃ l, st = some l ∧ l = numL (rdN st most).1.toNat ++ r := by
  unfold rdN at h ⊢
  split at h
  · cases h
  · rename_i b
    split at h
    · cases h
    · rename_i n r' hp
      cases h
      refine ⟨b, rfl, ?_⟩
      exact (numL_numP hp).2
theorem rdN_numI {st : Stt} {most : Nat} {r : List UInt8} (hm : most ≤ 1099511627776) (h : (rdN st most).2 = some r) : ∃ l, st = some l ∧ l = numI (rdN st most).1 ++ r := by
  obtain ⟨l, h1, h2⟩ := rdN_some h
  refine ⟨l, h1, ?_⟩
  have hr := rdN_range st most
  unfold numI
  have : clampN (rdN st most).1 = (rdN st most).1.toNat := by unfold clampN; omega
  rw [this]; exact h2
theorem rdT_some {st : Stt} {most : Nat} {r : List UInt8} (hm : most ≤ 1099511627776) (h : (rdT st most).2 = some r) : ∃ l, st = some l ∧ l = textL (rdT st most).1 ++ r := by
  unfold rdT at h ⊢
  split at h
  · cases h
  · rename_i b
    split at h
    · cases h
    · rename_i t r' hp
      cases h
      refine ⟨b, rfl, ?_⟩
      unfold textP at hp
      split at hp
      · cases hp
      · rename_i n q hq
        split at hp
        · cases hp
        · rename_i hlt
          cases hp
          obtain ⟨h1, h2⟩ := numL_numP hq
          unfold textL numI
          have : (q.take n).length = n := by simp; omega
          rw [this, clampN_nat (by omega), List.append_assoc, List.take_append_drop]
          exact h2
theorem rdSeqs_some : ∀ {k : Nat} {st : Stt} {r : List UInt8}, (rdSeqs k st).2 = some r → ∃ l, st = some l ∧ l = numsL (rdSeqs k st).1 ++ r
  | 0, st, r, h => ⟨r, h, rfl⟩
  | k + 1, st, r, h => by
    obtain ⟨m, h1, h2⟩ := rdN_numI (by decide) (show (rdN (rdSeqs k st).2 1099511627776).2 = some r from h)
    obtain ⟨l, h3, h4⟩ := rdSeqs_some h1
    refine ⟨l, h3, ?_⟩
    rw [h4, h2]
    show _ = numsL ((rdSeqs k st).1 ++ [(rdN (rdSeqs k st).2 1099511627776).1]) ++ r
    rw [numsL_append, numsL_one, List.append_assoc]
theorem encEs_snoc (l : List Ent) (x : Ent) : encEs (l ++ [x]) = encEs l ++ encE x := by simp [encEs]
theorem rdEnts_some : ∀ {k : Nat} {st : Stt} {r : List UInt8}, (rdEnts k st).2 = some r → ∃ l, st = some l ∧ l = encEs (rdEnts k st).1 ++ r
  | 0, st, r, h => ⟨r, h, rfl⟩
  | k + 1, st, r, h => by
    obtain ⟨m, h1, h2⟩ := rdN_numI (by decide) (show (rdN (rdT (rdEnts k st).2 8).2 11).2 = some r from h)
    obtain ⟨m2, h5, h6⟩ := rdT_some (by decide) h1
    obtain ⟨l, h3, h4⟩ := rdEnts_some h5
    refine ⟨l, h3, ?_⟩
    rw [h4, h6, h2]
    show _ = encEs ((rdEnts k st).1 ++ [⟨ba (rdT (rdEnts k st).2 8).1, (rdN (rdT (rdEnts k st).2 8).2 11).1⟩]) ++ r
    rw [encEs_snoc]
    simp only [encE, bl_ba, List.append_assoc]
theorem rdNod_some {st : Stt} {r : List UInt8} (h : (rdNod st).2 = some r) : ∃ l, st = some l ∧ l = encN (rdNod st).1 ++ r := by
  by_cases h1 : (rdN st 2).1 = 1
  · have hD : rdNod st = rdFile (rdN st 2).2 := by unfold rdNod; rw [if_pos h1]
    rw [hD] at h ⊢
    obtain ⟨l3, a3, b3⟩ := rdSeqs_some (show (rdSeqs 5 (rdN (rdN (rdN st 2).2 120).2 80).2).2 = some r from h)
    obtain ⟨l2, a2, b2⟩ := rdN_numI (by decide) a3
    obtain ⟨l1, a1, b1⟩ := rdN_numI (by decide) a2
    obtain ⟨l0, a0, b0⟩ := rdN_numI (by decide) a1
    refine ⟨l0, a0, ?_⟩
    rw [b0, b1, b2, b3, h1]
    rw [encN_1 rfl]
    simp only [rdFile, List.append_assoc]
  · by_cases h2 : (rdN st 2).1 = 2
    · have hD : rdNod st = rdDir (rdN st 2).2 := by unfold rdNod; rw [if_neg h1, if_pos h2]
      rw [hD] at h ⊢
      obtain ⟨l2, a2, b2⟩ := rdEnts_some (show (rdEnts (rdN (rdN st 2).2 10).1.toNat (rdN (rdN st 2).2 10).2).2 = some r from h)
      obtain ⟨l1, a1, b1⟩ := rdN_numI (by decide) a2
      obtain ⟨l0, a0, b0⟩ := rdN_numI (by decide) a1
      refine ⟨l0, a0, ?_⟩
      rw [b0, b1, b2, h2]
      have hr := rdN_range (rdN st 2).2 10
      have e : (((rdEnts (rdN (rdN st 2).2 10).1.toNat (rdN (rdN st 2).2 10).2).1.length : Nat) : Int) = (rdN (rdN st 2).2 10).1 := by rw [rdEnts_len]; omega
      rw [encN_2 rfl]
      simp only [rdDir, e, List.append_assoc]
    · have hD : rdNod st = (⟨(rdN st 2).1, 0, 0, [], []⟩, (rdN st 2).2) := by unfold rdNod; rw [if_neg h1, if_neg h2]
      rw [hD] at h ⊢
      obtain ⟨l0, a0, b0⟩ := rdN_numI (by decide) (show (rdN st 2).2 = some r from h)
      refine ⟨l0, a0, ?_⟩
      rw [encN_0 h1 h2]
      exact b0
theorem encT_snoc (t : Tre) (n : Nod) : encT (t ++ [n]) = encT t ++ encN n := by simp [encT]
theorem rdTre_some : ∀ {k : Nat} {st : Stt} {r : List UInt8}, (rdTre k st).2 = some r → ∃ l, st = some l ∧ l = encT (rdTre k st).1 ++ r
  | 0, st, r, h => ⟨r, h, rfl⟩
  | k + 1, st, r, h => by
    obtain ⟨m, h1, h2⟩ := rdNod_some (show (rdNod (rdTre k st).2).2 = some r from h)
    obtain ⟨l, h3, h4⟩ := rdTre_some h1
    refine ⟨l, h3, ?_⟩
    rw [h4, h2]
    show _ = encT ((rdTre k st).1 ++ [(rdNod (rdTre k st).2).1]) ++ r
    rw [encT_snoc, List.append_assoc]
/-- What was read is just what these bytes say. -/
theorem parseT_enc {l : List UInt8} {t : Tre} (h : parseT l = some t) : mayT t = true ∧ encT t = l := by
  unfold parseT at h
  split at h
  · rename_i hc
    cases h
    obtain ⟨m, h1, h2⟩ := rdTre_some hc.1
    cases h1
    exact ⟨hc.2, by rw [List.append_nil] at h2; exact h2.symm⟩
  · cases h
theorem rdTre_len : ∀ (k : Nat) (st : Stt), (rdTre k st).1.length = k
  | 0, _ => rfl
  | k + 1, st => by simp [rdTre, rdTre_len k st]
end Go.Proofs.YtdlgpolngnkiaaaDoor

/- Contracts of package root: trees to bytes and back. -/
namespace Go.Proofs.YtdlgpolngnkiaaaDoor
open Go
/-- As app1, what the reader's own block holds left out. -/
theorem app2 {α : Type} [Rep α] {V V0 : View} {p r : Nat} {st : Stt} {x : Sl} {e : TypeId} {bytes : Nat} {zero : List Value} {cs vs : List Value} {l : List α} {d : α} {C : Sl → View → Prop} {ob : Obj} {te : TypeId}
    (hz : zero.length = Rep.sz α) (hb : Buf V x e (Rep.sz α) cs) (hr : repL ((V.minus x).hide p) cs l) (hd : Rep.rep ((V.minus x).hide p) vs d) (hR : Rd (V.minus x) p st) (hle : V0.Le ((V.minus x).hide p)) (hnew : V.size ≤ r) (hob : ob = .cells ⟨vs⟩ te (0, 0))
    (hm : (x.n + 1) * bytes ≤ 140737488355328) (hm2 : x.n + 1 ≤ 140737488355328)
    (hC : ∀ s V' cs', Buf V' s e (Rep.sz α) cs' → repL ((V'.minus s).hide p) cs' (l ++ [d]) → Rd (V'.minus s) p st → V0.Le ((V'.minus s).hide p) → C s V') :
    apV (V.put r ob) e (Rep.sz α) bytes zero x (.slice (some ⟨r, 0, none⟩) 1 1) C := by
  subst hob
  have hfr : V.see r = none := View.see_none_of_ge hnew
  have hvl : vs.length = Rep.sz α := Rep.len hd
  refine apV_buf hz (hb.put hfr) (src := vs) (m := 1) ⟨rfl, rowAt_new (View.see_put_same _ _ _) (by rw [Nat.one_mul]; exact hvl)⟩ (by rw [Nat.one_mul]; exact hvl) (Rep.one hd) hm hm2 fun s V' hb' _ hle' => ?_
  have h1 : (V.minus x).Le (V'.minus s) := (put_minus_le hfr).trans hle'
  exact hC s V' _ hb' ((hr.mono (hide_mono h1 p)).snoc (Rep.mono (hide_mono h1 p) hd)) (hR.mono h1) (hle.trans (hide_mono h1 p))
/-- What Parse answers. -/
def ParseR (V : View) (o : Option Tre) (x : Sl) (e : Int) : Prop := match o with
  | none => x = ⟨none, 0, 0⟩ ∧ e = 5
  | some t => SlR V x t ∧ e = 0
/-! ### to bytes -/
theorem encE_len (x : Ent) : (encE x).length ≤ 14 + x.name.size := by
  unfold encE textL
  have h1 := numI_len ((bl x.name).length : Nat)
  have h2 := numI_len x.node
  simp only [List.length_append, bl_len] at *
  omega
theorem encEs_len : ∀ {l : List Ent}, (∀ x ∈ l, x.name.size ≤ 8) → (encEs l).length ≤ 22 * l.length
  | [], _ => by simp [encEs]
  | x :: l, h => by
    have h1 := encEs_len (l := l) fun y hy => h y (by simp [hy])
    have h2 := encE_len x
    have h3 := h x (by simp)
    have e : encEs (x :: l) = encE x ++ encEs l := by simp [encEs]
    rw [e, List.length_append, List.length_cons]; omega
theorem may_names {n : Nod} (h : mayN n = true) : ∀ x ∈ n.ents, x.name.size ≤ 8 := fun _ hx => (mayB_size (mayL_node (mayN_ents h) hx).2.2).2
theorem encN_len {n : Nod} (h : mayN n = true) : (encN n).length ≤ 240 := by
  have h1 := mayN_seqs h
  have h2 := mayL_len (mayN_ents h)
  have h3 := encEs_len (may_names h)
  have h4 := numsL_len n.seqs
  have a := numI_len n.kind
  have b := numI_len n.links
  have c := numI_len n.size
  have d := numI_len (n.ents.length : Nat)
  unfold encN
  split
  · simp only [List.length_append]; omega
  · split
    · simp only [List.length_append]; omega
    · simp; omega
theorem encT_len : ∀ {t : Tre}, (∀ n ∈ t, mayN n = true) → (encT t).length ≤ 240 * t.length
  | [], _ => by simp [encT]
  | n :: t, h => by
    have h1 := encT_len (t := t) fun y hy => h y (by simp [hy])
    have h2 := encN_len (h n (by simp))
    have e : encT (n :: t) = encN n ++ encT t := by simp [encT]
    rw [e, List.length_append, List.length_cons]; omega
theorem encT_take {t : Tre} {i : Nat} (h : i < t.length) : encT (t.take (i + 1)) = encT (t.take i) ++ encN (t.getD i default) := by
  rw [List.take_add_one, List.getElem?_eq_getElem h, getD_at h]
  exact encT_snoc _ _
/-- Numbers in a new block. -/
theorem newInts {V : View} {r : Nat} {l : List Int} (hl : ∀ n ∈ l, inI .i64 n) (hl2 : l.length ≤ 140737488355328) {ob : Obj} (ho : ob = .cells ⟨intsV l⟩ 3 (0, 0)) : SlR (V.put r ob) ⟨some ⟨r, 0, none⟩, l.length, l.length⟩ l :=
  slR_block (W := V.put r ob) (by rw [View.see_put_same, ho]) (rows_int hl) (View.Le.refl _) hl2
/-- A string's bytes in a new block. -/
theorem newBytes {V : View} {r cap : Nat} {b : ByteArray} {more : List Value} {f : Nat × Nat} (hc : b.size ≤ cap) (hm : b.size ≤ 140737488355328) : SlR (V.put r (.cells ⟨bytesV b ++ more⟩ 5 f)) ⟨some ⟨r, 0, none⟩, b.size, cap⟩ (bl b) := by
  refine ⟨(bl_len b).symm, hc, by show b.size ≤ _; omega, fun i hi => ?_⟩
  refine ⟨⟨r, 0, none⟩, [.int .u8 (bl b)[i].toNat], rfl, ?_, rfl⟩
  rw [cellsAt_one]
  show View.cell? _ ((⟨r, 0, none⟩ : Addr).add (i * 1)) = _
  rw [addr0_add]
  refine cell_of_see (View.see_put_same _ _ _) ?_
  have hb : (bytesV b).length = (bl b).length := by simp [bytesV]
  rw [Nat.zero_add, Nat.mul_one, List.getElem?_append_left (by rw [hb]; exact hi)]
  unfold bytesV
  rw [List.getElem?_map, List.getElem?_eq_getElem hi]
  rfl
/-- What Bytes answers. -/
def BytesR (V : View) (g : Bool) (t : Tre) (x : Sl) (e : Int) : Prop := match g with
  | false => x = ⟨none, 0, 0⟩ ∧ e = 1
  | true => SlR V x (encT t) ∧ e = 0
end Go.Proofs.YtdlgpolngnkiaaaDoor

/- Contracts: equal rows, equal trees. -/
namespace Go.Proofs.YtdlgpolngnkiaaaDoor
open Go
theorem ent_eq {x y : Ent} : (decide (x.name = y.name) && (decide (x.node = y.node) && true)) = decide (x = y) := by
  cases x; cases y
  rw [Bool.eq_iff_iff]; simp
theorem nod_eq (a b : Nod) : decide (a = b) = (decide (a.kind = b.kind) && decide (a.links = b.links) && decide (a.size = b.size) && (decide (a.seqs = b.seqs) && decide (a.ents = b.ents))) := by
  cases a; cases b
  rw [Bool.eq_iff_iff]; simp [and_assoc]
end Go.Proofs.YtdlgpolngnkiaaaDoor

/- Contracts: refs of nodes and trees. -/
namespace Go.Proofs.YtdlgpolngnkiaaaDoor
open Go
/-- The refs of a file's first pages. -/
def refsK (i : Int) (n : Nod) (k : Nat) : List Rf := (List.range k).filterMap fun (j : Nat) => if n.seqs.getD j 0 = 0 then none else some ⟨1 + i * 5 + j, n.seqs.getD j 0⟩
/-- The refs of a node. -/
def refsN (i : Int) (n : Nod) : List Rf := if n.kind = 1 ∧ mayN n = true ∧ within i 11 = true then refsK i n n.seqs.length else []
/-- The refs of a tree. -/
def refsU (t : Tre) (k : Nat) : List Rf := (List.range k).flatMap fun (i : Nat) => refsN (i : Int) (t.getD i default)
noncomputable def refsT (t : Tre) : List Rf := if mayT t then refsU t t.length else []
theorem refsK_len (i : Int) (n : Nod) (k : Nat) : (refsK i n k).length ≤ k := by
  unfold refsK
  have := List.length_filterMap_le (fun (j : Nat) => if n.seqs.getD j 0 = 0 then none else some (⟨1 + i * 5 + j, n.seqs.getD j 0⟩ : Rf)) (List.range k)
  rwa [List.length_range] at this
theorem refsK_succ (i : Int) (n : Nod) (k : Nat) : refsK i n (k + 1) = refsK i n k ++ (if n.seqs.getD k 0 = 0 then [] else [⟨1 + i * 5 + k, n.seqs.getD k 0⟩]) := by
  unfold refsK
  rw [List.range_succ, List.filterMap_append]
  congr 1
  simp only [List.filterMap_cons, List.filterMap_nil]
  split <;> rename_i h <;> split at h <;> simp_all
theorem refsN_len (i : Int) (n : Nod) : (refsN i n).length ≤ 5 := by
  unfold refsN
  split
  · rename_i h
    exact Nat.le_trans (refsK_len _ _ _) (mayN_seqs h.2.1)
  · simp
theorem refsU_succ (t : Tre) (k : Nat) : refsU t (k + 1) = refsU t k ++ refsN k (t.getD k default) := by
  unfold refsU; rw [List.range_succ]; simp
theorem refsU_len (t : Tre) : ∀ k, (refsU t k).length ≤ 5 * k
  | 0 => by simp [refsU]
  | k + 1 => by
    rw [refsU_succ, List.length_append]
    have := refsU_len t k
    have := refsN_len k (t.getD k default)
    omega
structure rfL (cs : List Value) (l : List Rf) : Prop where
  rep : ∀ {W : View}, repL W cs l
theorem repL.rf {W : View} : ∀ {cs : List Value} {l : List Rf}, repL W cs l → rfL cs l
  | _, [], h => ⟨h⟩
  | _, _ :: _, ⟨vs, us, e, h1, h2⟩ => ⟨⟨vs, us, e, h1, (repL.rf h2).rep⟩⟩
end Go.Proofs.YtdlgpolngnkiaaaDoor

/- Contracts: the first tree; the law that every program must know. -/
namespace Go.Proofs.YtdlgpolngnkiaaaDoor
open Go
def dirN : Nod := ⟨2, 1, 0, [], []⟩
def firstT : Tre := dirN :: List.replicate 11 Nod.zero
def firstB : List UInt8 := [2, 0, 0, 0, 0, 0, 0, 0, 0, 0, 0, 0, 0]
theorem hang_first : ∀ i, i < 12 → ∀ met : Bool, (i = 0 → met = true) → hangB (firstT.getD i default) (i : Nat) ((cnt 12 (allE firstT)).getD i 0) met = true := by decide
theorem mayT_first : mayT firstT = true := by
  unfold mayT
  have h1 : (decide (firstT.length = 12) && firstT.all mayN && decide ((firstT.getD 0 default).kind = 2)) = true := by decide
  have h2 : apartL (allS firstT) = true := by decide
  rw [h1, h2, Bool.true_and, Bool.and_true, List.all_eq_true]
  intro i hi
  exact hang_first i (List.mem_range.1 hi) _ fun h => by subst h; exact metB_iff.2 .refl
theorem encT_first : encT firstT = firstB := by decide
theorem rd_first : rdTre 12 (some firstB) = (firstT, some []) := by decide
theorem parseT_first : parseT firstB = some firstT := by
  unfold parseT; rw [rd_first, if_pos ⟨rfl, mayT_first⟩]
theorem refsT_first : refsT firstT = [] := by
  unfold refsT; rw [if_pos mayT_first]; decide
theorem empty2_ok {V : View} : CallV Tryd.prog 44 ⟨[.int .i64 2]⟩ V fun r V' => r = nodV dirN ⟨none, 0, 0⟩ ⟨none, 0, 0⟩ ∧ V' = V := by
  refine f44_x ?_
  unfold f44_n
  exact fun _ => br_intro (fun h => absurd h (by decide)) (fun _ => br_intro (fun _ => ⟨rfl, rfl⟩) (fun h => absurd h (by decide)))
def nodCs (n : Nod) : List Value := [.int .i64 n.kind, .int .i64 n.links, .int .i64 n.size, .slice none 0 0, .slice none 0 0]
theorem rep_bare {W : View} {n : Nod} (h1 : inI .i64 n.kind) (h2 : inI .i64 n.links) (h3 : inI .i64 n.size) (h4 : n.seqs = []) (h5 : n.ents = []) : Rep.rep W (nodCs n) n :=
  ⟨⟨none, 0, 0⟩, ⟨none, 0, 0⟩, rfl, h1, h2, h3, by rw [h4]; exact SlR.nil _ _ _, by rw [h5]; exact SlR.nil _ _ _⟩
theorem rep_zeros {W : View} : ∀ k, repL W (List.replicate k (nodCs Nod.zero)).flatten (List.replicate k Nod.zero)
  | 0 => rfl
  | k + 1 => ⟨nodCs Nod.zero, (List.replicate k (nodCs Nod.zero)).flatten, by rw [List.replicate_succ, List.flatten_cons], rep_bare zero64 zero64 zero64 rfl rfl, rep_zeros k⟩
theorem first_ok {V : View} : CallV Tryd.prog 16 ⟨[]⟩ V fun r V' => ∃ x : Sl, r = treV x ∧ SlR V' x firstT ∧ V.Le V' := by
  refine f16_x (_u := ()) ?_
  unfold f16_n
  refine fun _ => ⟨by decide, by decide, by decide, by decide, fun r hr => ?_⟩
  have hfr := View.see_none_of_ge hr
  have hp := View.put_le (o := .cells ⟨(List.replicate 12 (nodCs Nod.zero)).flatten⟩ 37 (0, 0)) hfr
  refine fun _ => ⟨trivial, V, hp, empty2_ok.mono ?_⟩
  rintro r1 V1 ⟨rfl, rfl⟩
  refine ⟨_, _, _, ⟨none, 0, 0⟩, ⟨none, 0, 0⟩, rfl, hp, by decide, by decide, _, rfl, ?_, ⟨some ⟨r, 0, none⟩, 12, 12⟩, rfl, ?_, ?_⟩
  · exact canSet_of (View.see_put_same _ _ _) (by decide)
  · have e : (⟨r, 0, none⟩ : Addr).add 0 = ⟨r, 0, none⟩ := rfl
    rw [e, sets_see (View.see_put_same _ _ _)]
    have := slR_block (α := Nod) (l := firstT) (W := (V.put r (.cells ⟨(List.replicate 12 (nodCs Nod.zero)).flatten⟩ 37 (0, 0))).put r (.cells ⟨nodCs dirN ++ (List.replicate 11 (nodCs Nod.zero)).flatten⟩ 37 (0, 0))) (View.see_put_same _ _ _) ⟨nodCs dirN, _, rfl, rep_bare two64 one64 zero64 rfl rfl, rep_zeros 11⟩ (View.Le.refl _) (by decide)
    exact this
  · have e : (⟨r, 0, none⟩ : Addr).add 0 = ⟨r, 0, none⟩ := rfl
    rw [e, sets_see (View.see_put_same _ _ _)]
    exact (put_le_hide hfr (View.Le.refl _)).trans (hide_le_put r _)
theorem u8_row {V : View} {x : Sl} {l : List UInt8} (h : SlR V x l) : rowAt V x.a x.n (bytesV (ba l)) := by
  have := h.row8
  rw [Nat.mul_one] at this
  exact this
end Go.Proofs.YtdlgpolngnkiaaaDoor

/- Which directories one comes to: marks, round by round. No program in this text. -/
namespace Go.Proofs.YtdlgpolngnkiaaaDoor
open Go
abbrev kindT (t : Tre) (j : Nat) : Int := (t.getD j default).kind
abbrev entsT (t : Tre) (j : Nat) : List Ent := (t.getD j default).ents
/-- Marks on directories that one comes to. -/
structure RI (t : Tre) (on : List Bool) : Prop where
  len : on.length = 12
  start : on.getD 0 false = true
  sound : ∀ j, on.getD j false = true → Reach t 0 j ∧ kindT t j = 2
/-- What the marked ones of the first i name is marked, if it is a directory. -/
def Clo (t : Tre) (on0 on : List Bool) (i : Nat) : Prop := ∀ j, j < i → on0.getD j false = true → ∀ e ∈ entsT t j, kindT t e.node.toNat = 2 → on.getD e.node.toNat false = true
def SubB (a b : List Bool) : Prop := ∀ j, a.getD j false = true → b.getD j false = true
/-- Within a round. -/
structure PI (t : Tre) (on0 on : List Bool) (i : Nat) : Prop where
  ri : RI t on
  sub : SubB on0 on
  clo : Clo t on0 on i
  stay : Clo t on0 on0 12 → on = on0
def trues (on : List Bool) : Nat := on.countP fun b => b
theorem count_sub : ∀ (a b : List Bool), a.length = b.length → SubB a b → trues a ≤ trues b ∧ (trues a = trues b → a = b)
  | [], [], _, _ => ⟨Nat.le_refl _, fun _ => rfl⟩
  | x :: a, y :: b, hl, hs => by
    obtain ⟨h1, h2⟩ := count_sub a b (by simpa using hl) fun j hj => by have := hs (j + 1) (by simpa using hj); simpa using this
    have h0 : x = true → y = true := fun h => by have := hs 0 (by simpa using h); simpa using this
    unfold trues at *
    simp only [List.countP_cons]
    cases x <;> cases y <;> simp at h0 ⊢
    · exact ⟨h1, h2⟩
    · exact ⟨by omega, fun h => by omega⟩
    · exact ⟨h1, h2⟩
theorem trues_le (on : List Bool) : trues on ≤ on.length := List.countP_le_length
theorem PI.start {t : Tre} {on : List Bool} (h : RI t on) : PI t on on 0 := ⟨h, fun _ h => h, fun _ hj => absurd hj (Nat.not_lt_zero _), fun _ => rfl⟩
theorem PI.skip {t : Tre} {on0 on : List Bool} {i : Nat} (h : PI t on0 on i) (hi : on.getD i false = false) : PI t on0 on (i + 1) :=
  ⟨h.ri, h.sub, fun j hj h0 e he hk => by
    by_cases hji : j = i
    · subst hji; have := h.sub _ h0; rw [hi] at this; cases this
    · exact h.clo j (by omega) h0 e he hk, h.stay⟩
theorem PI.next {t : Tre} {on0 on : List Bool} {i : Nat} (h : PI t on0 on i) (hi : ∀ e ∈ entsT t i, kindT t e.node.toNat = 2 → on.getD e.node.toNat false = true) : PI t on0 on (i + 1) :=
  ⟨h.ri, h.sub, fun j hj h0 e he hk => by
    by_cases hji : j = i
    · subst hji; exact hi e he hk
    · exact h.clo j (by omega) h0 e he hk, h.stay⟩
theorem set_same {on : List Bool} {q : Nat} (h : on.getD q false = true) : on.set q true = on := by
  apply List.ext_getElem? 
  intro j
  rw [List.getElem?_set]
  by_cases e : q = j
  · subst e
    rw [List.getD_eq_getElem?_getD] at h
    cases ho : on[q]? with
    | none => rw [ho] at h; cases h
    | some b =>
      rw [ho] at h
      have hb : b = true := h
      rw [if_pos rfl, if_pos (List.getElem?_eq_some_iff.1 ho).1, hb]
  · rw [if_neg e]
theorem PI.mark {t : Tre} {on0 on : List Bool} {i q : Nat} {e : Ent} (h : PI t on0 on i) (hi12 : i < 12) (hi : on.getD i false = true) (he : e ∈ entsT t i) (hq : e.node = q) (hq12 : q < 12) (hk : kindT t q = 2) : PI t on0 (on.set q true) i := by
  have hl : q < on.length := by rw [h.ri.len]; exact hq12
  have hg := fun j => getD_set_bool on q j hl
  have up : ∀ j, on.getD j false = true → (on.set q true).getD j false = true := fun j hj => by rw [hg, hj]; simp
  refine ⟨⟨by simp [h.ri.len], up _ h.ri.start, fun j hj => ?_⟩, fun j hj => up _ (h.sub j hj), fun j hj h0 e he hk => up _ (h.clo j hj h0 e he hk), fun hc => ?_⟩
  · rw [hg] at hj
    split at hj
    · rename_i e1
      subst e1
      have := Reach.step (h.ri.sound i hi).1 he
      rw [hq, Int.toNat_natCast] at this
      exact ⟨this, hk⟩
    · exact h.ri.sound j hj
  · have hs := h.stay hc
    have h0 : on0.getD i false = true := by rw [← hs]; exact hi
    have := hc i hi12 h0 e he (by rw [hq, Int.toNat_natCast]; exact hk)
    rw [hq, Int.toNat_natCast, ← hs] at this
    rw [set_same this]; exact hs
/-- One round more. -/
theorem PI.round {t : Tre} {on0 on : List Bool} {k : Nat} (h0 : RI t on0) (h : PI t on0 on 12) (hk : Clo t on0 on0 12 ∨ k + 1 ≤ trues on0) : Clo t on on 12 ∨ k + 2 ≤ trues on := by
  obtain ⟨c1, c2⟩ := count_sub on0 on (by rw [h0.len, h.ri.len]) h.sub
  rcases hk with hk | hk
  · left
    have := h.stay hk
    rw [this]; exact hk
  · by_cases e : trues on0 = trues on
    · left
      have := c2 e
      subst this
      exact h.clo
    · right; omega
theorem RI.end {t : Tre} {on : List Bool} (h : RI t on) (hk : Clo t on on 12 ∨ 13 ≤ trues on) (h12 : t.length = 12) (hall : ∀ n ∈ t, mayN n = true) : on = (List.range 12).map fun j => metB t 0 j && decide (kindT t j = 2) := by
  have hc : Clo t on on 12 := by
    rcases hk with hk | hk
    · exact hk
    · have := trues_le on; rw [h.len] at this; omega
  have hdir : ∀ i, i < 12 → entsT t i ≠ [] → kindT t i = 2 := fun i hi hne => by
    have hm : mayN (t.getD i default) = true := hall _ (by rw [getD_at (by omega)]; exact List.getElem_mem _)
    unfold mayN at hm
    split at hm
    · simp at hm; exact absurd hm.2 hne
    · split at hm
      · unfold fileB at hm; simp at hm; exact absurd hm.1.2 hne
      · split at hm
        · rename_i hk; exact hk
        · cases hm
  have hlt : ∀ i, entsT t i ≠ [] → i < 12 := fun i hne => by
    apply Classical.byContradiction
    intro hi
    apply hne
    show (t.getD i default).ents = []
    rw [List.getD_eq_getElem?_getD, List.getElem?_eq_none (by omega)]; rfl
  have hcomp : ∀ j, Reach t 0 j → kindT t j = 2 → on.getD j false = true := by
    intro j hj
    induction hj with
    | refl => exact fun _ => h.start
    | @step i x hi hx ih =>
      intro hk
      have hne : entsT t i ≠ [] := fun e => by
        have : x ∈ entsT t i := hx
        rw [e] at this; cases this
      have hi12 := hlt i hne
      exact hc i hi12 (ih (hdir i hi12 hne)) x hx hk
  apply List.ext_getElem (by simp [h.len])
  intro j h1 h2
  have e : on.getD j false = on[j] := by rw [List.getD_eq_getElem?_getD, List.getElem?_eq_getElem h1]; rfl
  rw [List.getElem_map, List.getElem_range, Bool.eq_iff_iff, Bool.and_eq_true, metB_iff, decide_eq_true_eq, ← e]
  exact ⟨h.sound j, fun ⟨a, b⟩ => hcomp j a b⟩
end Go.Proofs.YtdlgpolngnkiaaaDoor

/- Contracts of the reference: which directories one comes to, names of a node. -/
namespace Go.Proofs.YtdlgpolngnkiaaaDoor
open Go
/-- Marks in a block, beside what was there. -/
structure MI (V V' : View) (r : Nat) (on : List Bool) : Prop where
  marks : V'.see r = some (.cells ⟨boolsV on⟩ 4 (0, 0))
  le : V.Le (V'.hide r)
theorem MI.vle {V V' : View} {r : Nat} {on : List Bool} (h : MI V V' r on) : V.Le V' := h.le.trans (View.hide_le _ _)
theorem MI.get {V V' : View} {r : Nat} {on : List Bool} (h : MI V V' r on) {q : Nat} (hq : q < on.length) : V'.cell? ((⟨r, 0, none⟩ : Addr).add (q * 1)) = some (.bool (on.getD q false)) := by
  rw [addr0_add]
  refine cell_of_see h.marks ?_
  rw [List.getD_eq_getElem?_getD, List.getElem?_eq_getElem hq]
  show (boolsV on)[0 + q * 1]? = _
  unfold boolsV
  rw [Nat.zero_add, Nat.mul_one, List.getElem?_map, List.getElem?_eq_getElem hq]
  rfl
theorem MI.set {V V' : View} {r : Nat} {on : List Bool} (h : MI V V' r on) {q : Nat} (hq : q < on.length) : canSet V' ((⟨r, 0, none⟩ : Addr).add (q * 1)) 1 ∧ MI V (V'.sets ((⟨r, 0, none⟩ : Addr).add (q * 1)) [.bool true]) r (on.set q true) := by
  rw [addr0_add]
  refine ⟨canSet_of h.marks (show 0 + q * 1 + 1 ≤ _ by rw [boolsV_len]; omega), ?_, ?_⟩
  · rw [sets_see h.marks, View.see_put_same, putL_one, Nat.zero_add, Nat.mul_one, boolsV_set]
  · rw [sets_see h.marks]
    exact h.le.trans (hide_le_put_hide r _)
theorem reached_ok {s : Sl} {t : Tre} {V : View} (h : SlR V s t) (h12 : t.length = 12) (hall : ∀ n ∈ t, mayN n = true) (h2 : kindT t 0 = 2) :
    CallV Tryd.prog 29 ⟨[treV s, .int .i64 0]⟩ V fun r V' => ∃ x : Sl, r = .slice x.a x.n x.c ∧ SlR V' x ((List.range 12).map fun j => metB t 0 j && decide (kindT t j = 2)) ∧ V.Le V' := by
  refine f29_x ?_
  unfold f29_n
  have hn : s.n = 12 := by rw [h.n, h12]
  rw [hn]
  refine fun _ => ⟨by decide, by decide, by decide, by decide, fun r hr => ?_⟩
  have hfr : V.see r = none := View.see_none_of_ge hr
  have hM0 : MI V (V.put r (.cells ⟨(List.replicate (((12 : Nat) : Int).toNat) [Value.bool false]).flatten⟩ 4 (0, 0))) r (List.replicate 12 false) := ⟨View.see_put_same _ _ _, put_le_hide hfr (View.Le.refl _)⟩
  generalize (V.put r (.cells ⟨(List.replicate (((12 : Nat) : Int).toNat) [Value.bool false]).flatten⟩ 4 (0, 0))) = V1 at *
  refine joinP_cut (fun q V' => q.1 = false ∧ V' = V1) (br_intro (fun hb => absurd hb (by decide)) (fun _ => ?_)) ?_
  · obtain ⟨ad, sq, en, ha, hc, hN⟩ := (h.mono hM0.vle).nodN (i := 0) (by omega)
    refine ⟨by omega, by omega, ad, ha, _, cellsAt_nth hc 0 rfl, ?_, rfl⟩
    rw [decide_eq_true (show (t.getD 0 default).kind = 2 from h2)]; rfl
  rintro ⟨q, ⟨⟩⟩ V2 ⟨h1, hV⟩
  simp only at h1 hV
  subst h1 hV
  dsimp only [unc]
  refine br_intro (fun hb => absurd hb (by decide)) (fun _ => ?_)
  obtain ⟨hs1, hM1⟩ := hM0.set (q := 0) (by simp)
  refine ⟨by omega, by omega, _, rfl, hs1, ?_⟩
  have hR1 : RI t ((List.replicate 12 false).set 0 true) := by
    have hg := fun j => getD_set_bool (List.replicate 12 false) 0 j (by simp)
    refine ⟨by simp, by rw [hg, if_pos rfl], fun j hj => ?_⟩
    rw [hg] at hj
    split at hj
    · rename_i e; subst e; exact ⟨.refl, h2⟩
    · rw [List.getD_eq_getElem?_getD, List.getElem?_replicate] at hj
      split at hj <;> cases hj
  have hlim := h.lim
  refine loop1 (k := .int .i64) (fun (x : Int) V' => ∃ (k : Nat) (on : List Bool), x = k ∧ k ≤ 12 ∧ MI V V' r on ∧ RI t on ∧ (Clo t on on 12 ∨ k + 1 ≤ trues on)) (fun (x : Int) _ => 12 - x.toNat) ⟨0, _, rfl, by omega, hM1, hR1, .inr (by decide)⟩ ?_
  rintro (x : Int) V3 ⟨k, on0, rfl, hk, hM3, hR3, hC3⟩
  refine br_intro (fun hlt => ?_) (fun hge => ?_)
  · have hlt : k < 12 := by have := of_decide_eq_true hlt; omega
    refine loop1 (k := .int .i64) (fun (x : Int) V' => ∃ (i : Nat) (on : List Bool), x = i ∧ i ≤ 12 ∧ MI V V' r on ∧ PI t on0 on i) (fun (x : Int) _ => 12 - x.toNat) ⟨0, on0, rfl, by omega, hM3, .start hR3⟩ ?_
    rintro (x : Int) V4 ⟨i, on, rfl, hi, hM4, hP4⟩
    refine br_intro (fun hlt => ?_) (fun hge => ?_)
    · have hlt : i < 12 := by have := of_decide_eq_true hlt; omega
      have hlti := hlt
      obtain ⟨ad, sq, en, ha, hc, hN⟩ := h.nodN (i := i) (by omega)
      have hmem : t.getD i default ∈ t := by rw [getD_at (by omega)]; exact List.getElem_mem _
      have hnode := mayN_ents (hall _ hmem)
      have hil : i < on.length := by rw [hP4.ri.len]; exact hlt
      refine joinP_cut (fun _ V' => ∃ on, MI V V' r on ∧ PI t on0 on (i + 1)) ⟨by omega, by omega, ad, ha, _, _, _, sq, en, cellsAt_mono hM4.vle hc, fun _ => ⟨by omega, by omega, _, rfl, _, hM4.get hil, br_intro (fun hb => ?_) (fun hb => ?_)⟩⟩ ?_
      · exact ⟨on, hM4, hP4.skip (not_t hb)⟩
      · have hon := not_f hb
        have hen := hN.ents.n
        have helim := hN.ents.lim
        have hle0 : (entsT t i).length = (t.getD i default).ents.length := rfl
        refine loop1 (k := .int .i64) (fun (x : Int) V' => ∃ (m : Nat) (on : List Bool), x = m ∧ m ≤ (entsT t i).length ∧ MI V V' r on ∧ PI t on0 on i ∧ on.getD i false = true ∧ ∀ e ∈ (entsT t i).take m, kindT t e.node.toNat = 2 → on.getD e.node.toNat false = true) (fun (x : Int) _ => (entsT t i).length - x.toNat) ⟨0, on, rfl, by omega, hM4, hP4, hon, fun e he => by simp at he⟩ ?_
        rintro (x : Int) V5 ⟨m, on5, rfl, hm, hM5, hP5, hon5, hdone⟩
        refine br_intro (fun hlt => ?_) (fun hge => ?_)
        · have hltm : m < (entsT t i).length := by have := of_decide_eq_true hlt; omega
          obtain ⟨ad3, ha3, hc3, _, _⟩ := (hN.ents.mono hM5.vle).entN (i := m) hltm
          have hxm : (t.getD i default).ents.getD m default ∈ (t.getD i default).ents := by rw [getD_at hltm]; exact List.getElem_mem _
          have hq := mayL_node hnode hxm
          have etk : (entsT t i).take (m + 1) = (entsT t i).take m ++ [(t.getD i default).ents.getD m default] := by rw [List.take_add_one, List.getElem?_eq_getElem hltm, getD_at hltm]; rfl
          obtain ⟨q, hqe⟩ : ∃ q : Nat, ((t.getD i default).ents.getD m default).node = q := ⟨((t.getD i default).ents.getD m default).node.toNat, by omega⟩
          have hq12 : q < 12 := by omega
          refine ⟨by omega, by omega, ad3, ha3, _, _, hc3, fun _ => ?_⟩
          rw [hqe]
          generalize hxx : (t.getD i default).ents.getD m default = e at *
          refine joinP_cut (fun g V' => g.1 = decide (kindT t q = 2) ∧ V' = V5) (br_intro (fun _ => ?_) (fun hb => ?_)) ?_
          · obtain ⟨ad4, sq4, en4, ha4, hc4, _⟩ := h.nodN (i := q) (by omega)
            exact ⟨by omega, by omega, ad4, ha4, _, cellsAt_nth (cellsAt_mono hM5.vle hc4) 0 rfl, rfl, rfl⟩
          · exfalso
            rw [decide_eq_true (show (0 : Int) ≤ (q : Int) by omega)] at hb
            have := of_decide_eq_false hb
            omega
          · rintro ⟨g, ⟨⟩⟩ V6 ⟨h1, hV⟩
            simp only at h1 hV
            subst h1 hV
            dsimp only [unc]
            have hql : q < on5.length := by rw [hP5.ri.len]; exact hq12
            refine joinP_cut (fun _ V' => ∃ on, MI V V' r on ∧ PI t on0 on i ∧ on.getD i false = true ∧ ∀ e ∈ (entsT t i).take (m + 1), kindT t e.node.toNat = 2 → on.getD e.node.toNat false = true) (br_intro (fun hb => ?_) (fun hb => ?_)) ?_
            · have hkq := of_decide_eq_true hb
              obtain ⟨hs6, hM6⟩ := hM5.set hql
              have hg := fun j => getD_set_bool on5 q j hql
              refine ⟨by omega, by omega, _, rfl, hs6, _, hM6, hP5.mark hlti hon5 hxm hqe hq12 hkq, by rw [hg, hon5]; simp, fun e' he' hk' => ?_⟩
              rw [etk] at he'
              rw [hg]
              rcases List.mem_append.1 he' with h7 | h7
              · rw [hdone e' h7 hk']; simp
              · rw [List.mem_singleton.1 h7, hqe, Int.toNat_natCast, if_pos rfl]
            · have hkq := of_decide_eq_false hb
              refine ⟨on5, hM5, hP5, hon5, fun e' he' hk' => ?_⟩
              rw [etk] at he'
              rcases List.mem_append.1 he' with h7 | h7
              · exact hdone e' h7 hk'
              · rw [List.mem_singleton.1 h7, hqe, Int.toNat_natCast] at hk'
                exact absurd hk' hkq
            · rintro ⟨⟩ V7 ⟨on7, hM7, hP7, hon7, hd7⟩
              exact ⟨inI64 (by omega) (by omega), ⟨m + 1, on7, by omega, by omega, hM7, hP7, hon7, hd7⟩, by omega⟩
        · have hge : m = (entsT t i).length := by have := of_decide_eq_false hge; omega
          subst hge
          rw [List.take_length] at hdone
          exact ⟨on5, hM5, hP5.next hdone⟩
      · rintro ⟨⟩ V5 ⟨on5, hM5, hP5⟩
        exact ⟨inI64 (by omega) (by omega), ⟨i + 1, on5, by omega, by omega, hM5, hP5⟩, by omega⟩
    · have hge : i = 12 := by have := of_decide_eq_false hge; omega
      subst hge
      exact ⟨inI64 (by omega) (by omega), ⟨k + 1, on, by omega, by omega, hM4, hP4.ri, hP4.round hR3 hC3⟩, by omega⟩
  · have hge : k = 12 := by have := of_decide_eq_false hge; omega
    subst hge
    refine ⟨⟨some ⟨r, 0, none⟩, 12, 12⟩, rfl, ?_, hM3.vle⟩
    have := slR_block (W := V3) hM3.marks rows_bool (View.Le.refl _) (by rw [hR3.len]; omega)
    rw [hR3.len, hR3.end hC3 h12 hall] at this
    exact this
theorem named_ok {s : Sl} {t : Tre} {a : Int} {V : View} (h : SlR V s t) (h12 : t.length = 12) (he : ∀ n ∈ t, n.ents.length ≤ 10) :
    CallV Tryd.prog 30 ⟨[treV s, .int .i64 a]⟩ V fun r V' => r = .int .i64 ((allE t).countP (fun (x : Ent) => decide (x.node = a)) : Nat) ∧ V' = V := by
  refine f30_x ?_
  unfold f30_n
  have hn := h.n
  refine fun _ => ?_
  refine loop2 (k := .int .i64) (l := .int .i64) (fun (x : Int) (j : Int) V' => V' = V ∧ ∃ i : Nat, j = i ∧ i ≤ 12 ∧ x = ((allE (t.take i)).countP (fun (x : Ent) => decide (x.node = a)) : Nat)) (fun _ (j : Int) _ => 12 - j.toNat) ⟨rfl, 0, rfl, by omega, rfl⟩ ?_
  rintro (x : Int) (j : Int) V1 ⟨rfl, i, rfl, hi, rfl⟩
  refine br_intro (fun hlt => ?_) (fun hge => ?_)
  · have hlt : i < 12 := by have := of_decide_eq_true hlt; omega
    obtain ⟨ad, sq, en, ha, hc, hN⟩ := h.nodN (i := i) (by omega)
    have hmem : t.getD i default ∈ t := by rw [getD_at (by omega)]; exact List.getElem_mem _
    have hle := he _ hmem
    have hti := allE_take (t := t) (i := i) (by omega)
    have htk : (allE (t.take i)).length ≤ 10 * 12 := Nat.le_trans (allE_len fun n hn => he n (List.mem_of_mem_take hn)) (Nat.mul_le_mul_left _ (by simp; omega))
    have hen := hN.ents.n
    refine ⟨by omega, by omega, ad, ha, _, _, _, sq, en, hc, fun _ => ?_⟩
    generalize t.getD i default = nd at *
    refine loop2 (k := .int .i64) (l := .int .i64) (fun (x : Int) (j : Int) V' => V' = V1 ∧ ∃ k : Nat, j = k ∧ k ≤ nd.ents.length ∧ x = ((allE (t.take i) ++ nd.ents.take k).countP (fun (x : Ent) => decide (x.node = a)) : Nat)) (fun _ (j : Int) _ => nd.ents.length - j.toNat) ⟨rfl, 0, rfl, by omega, by simp⟩ ?_
    rintro (x : Int) (j : Int) V2 ⟨rfl, k, rfl, hk, rfl⟩
    have hcl := List.countP_le_length (p := fun (x : Ent) => decide (x.node = a)) (l := allE (t.take i) ++ nd.ents.take k)
    simp only [List.length_append, List.length_take] at hcl
    refine br_intro (fun hlt => ?_) (fun hge => ?_)
    · have hlt : k < nd.ents.length := by have := of_decide_eq_true hlt; omega
      obtain ⟨ad, ha, hc, _, _⟩ := hN.ents.entN hlt
      have etk : nd.ents.take (k + 1) = nd.ents.take k ++ [nd.ents.getD k default] := by rw [List.take_add_one, List.getElem?_eq_getElem hlt, getD_at hlt]; rfl
      refine ⟨by omega, by omega, ad, ha, _, _, hc, fun _ => ?_⟩
      generalize nd.ents.getD k default = e at *
      have hst : (allE (t.take i) ++ nd.ents.take (k + 1)).countP (fun (x : Ent) => decide (x.node = a)) = (allE (t.take i) ++ nd.ents.take k).countP (fun (x : Ent) => decide (x.node = a)) + if e.node = a then 1 else 0 := by
        rw [etk, ← List.append_assoc, List.countP_append]
        congr 1
        by_cases h1 : e.node = a <;> simp [h1]
      refine joinP_cut (fun g V' => g.1 = ((allE (t.take i) ++ nd.ents.take (k + 1)).countP (fun (x : Ent) => decide (x.node = a)) : Nat) ∧ V' = V2) (br_intro (fun h1 => ⟨inI64 (by omega) (by omega), ?_, rfl⟩) (fun h1 => ⟨?_, rfl⟩)) ?_
      · rw [hst, if_pos (of_decide_eq_true h1)]; rfl
      · rw [hst, if_neg (of_decide_eq_false h1)]; rfl
      · rintro ⟨g, ⟨⟩⟩ V3 ⟨h1, hV⟩
        simp only at h1 hV
        subst h1 hV
        exact ⟨inI64 (by omega) (by omega), ⟨rfl, k + 1, by omega, by omega, rfl⟩, by omega⟩
    · have hge : k = nd.ents.length := by have := of_decide_eq_false hge; omega
      subst hge
      rw [List.take_length] at *
      exact ⟨inI64 (by omega) (by omega), ⟨rfl, i + 1, by omega, by omega, by rw [hti]⟩, by omega⟩
  · have hge : i = 12 := by have := of_decide_eq_false hge; omega
    subst hge
    rw [List.take_of_length_le (by omega)]
    exact ⟨rfl, rfl⟩
end Go.Proofs.YtdlgpolngnkiaaaDoor

/- Contracts of what finds nodes by paths. -/
namespace Go.Proofs.YtdlgpolngnkiaaaDoor
open Go
/-! ### plain -/
/-- The node of a name; -1: there is none. -/
def atI (l : List Ent) (s : ByteArray) : Int := match l.find? fun x => decide (x.name = s) with
  | some x => x.node
  | none => -1
theorem idxI_find {α : Type} (p : α → Bool) : ∀ l : List α, (idxI p l = -1 ∧ l.find? p = none) ∨ ∃ i, ∃ h : i < l.length, idxI p l = (i : Int) ∧ l.find? p = some l[i]
  | [] => .inl ⟨rfl, rfl⟩
  | x :: l => by
    unfold idxI
    by_cases hx : p x = true
    · right; exact ⟨0, by simp, by rw [if_pos hx]; rfl, by simp [hx]⟩
    · rw [if_neg hx]
      rcases idxI_find p l with ⟨h1, h2⟩ | ⟨i, h, h1, h2⟩
      · left; rw [h1]; exact ⟨rfl, by simp [hx, h2]⟩
      · right
        refine ⟨i + 1, by simpa using h, ?_, by simp [hx, h2]⟩
        rw [h1]; simp
/-- Name by name from a node on. -/
def goF (t : Tre) : Nat → List ByteArray → Except Int Nat
  | i, [] => .ok i
  | i, s :: l => if kindT t i = 2 then (if atI (entsT t i) s < 0 then .error 8 else goF t (atI (entsT t i) s).toNat l) else .error 11
theorem goF_cons (t : Tre) (i : Nat) (s : ByteArray) (l : List ByteArray) : goF t i (s :: l) = if kindT t i = 2 then (if atI (entsT t i) s < 0 then .error 8 else goF t (atI (entsT t i) s).toNat l) else .error 11 := rfl
noncomputable def findT (t : Tre) (s : ByteArray) : Except Int Nat := if mayT t then match splitP s with
  | none => .error 7
  | some l => goF t 0 l
  else .error 1
noncomputable def parentT (t : Tre) (s : ByteArray) : Except Int (Nat × ByteArray) := if mayT t then
    (if (lastP s).2.2 = 0 then match findT t (lastP s).1 with
      | .error e => .error e
      | .ok i => if kindT t i = 2 then .ok (i, (lastP s).2.1) else .error 11
    else .error (lastP s).2.2)
  else .error 1
noncomputable def insideT (t : Tre) (a b : Int) : Bool := mayT t && decide (0 ≤ a) && decide (a < 12) && decide (0 ≤ b) && decide (b < 12) && decide (kindT t a.toNat = 2) && metB t a.toNat b.toNat
noncomputable def freeT (t : Tre) : Int := if mayT t then idxI (fun n => decide (n.kind = 0)) t else -1
theorem mayT_all {t : Tre} (h : mayT t = true) : t.length = 12 ∧ (∀ n ∈ t, mayN n = true) ∧ kindT t 0 = 2 ∧ (∀ i, i < 12 → hangB (t.getD i default) i ((cnt 12 (allE t)).getD i 0) (metB t 0 i) = true) ∧ apartL (allS t) = true := by
  unfold mayT at h
  simp only [Bool.and_eq_true, decide_eq_true_eq, List.all_eq_true, List.mem_range] at h
  exact ⟨h.1.1.1.1, h.1.1.1.2, h.1.1.2, h.1.2, h.2⟩
theorem mayT_node {t : Tre} (h : mayT t = true) : ∀ n ∈ t, ∀ e ∈ n.ents, 1 ≤ e.node ∧ e.node < 12 := fun n hn e he => by
  have := mayL_node (mayN_ents ((mayT_all h).2.1 n hn)) he
  exact ⟨this.1, this.2.1⟩
theorem getD_mem {t : Tre} {i : Nat} (h : i < t.length) : t.getD i default ∈ t := by rw [getD_at h]; exact List.getElem_mem _
theorem atI_range {l : List Ent} {s : ByteArray} (h : ∀ e ∈ l, 1 ≤ e.node ∧ e.node < 12) : atI l s = -1 ∨ (1 ≤ atI l s ∧ atI l s < 12) := by
  unfold atI
  split
  · rename_i x hx; right; exact h x (List.mem_of_find?_eq_some hx)
  · left; rfl
theorem goF_range {t : Tre} (h12 : t.length = 12) (hn : ∀ n ∈ t, ∀ e ∈ n.ents, 1 ≤ e.node ∧ e.node < 12) : ∀ {l : List ByteArray} {i q : Nat}, i < 12 → goF t i l = .ok q → q < 12
  | [], i, q, hi, h => by cases h; exact hi
  | s :: l, i, q, hi, h => by
    unfold goF at h
    split at h
    · split at h
      · cases h
      · rename_i h0
        have := atI_range (s := s) (hn _ (getD_mem (t := t) (i := i) (by omega)))
        refine goF_range h12 hn ?_ h
        unfold entsT at h0 ⊢
        omega
    · cases h
theorem findT_range {t : Tre} {s : ByteArray} {q : Nat} (h : findT t s = .ok q) : q < 12 := by
  unfold findT at h
  split at h
  · rename_i hM
    split at h
    · cases h
    · exact goF_range (mayT_all hM).1 (mayT_node hM) (by omega) h
  · cases h
def outF : Except Int Nat → Value
  | .ok i => .tuple ⟨[.int .i64 (i : Int), .int .i64 0]⟩
  | .error e => .tuple ⟨[.int .i64 0, .int .i64 e]⟩
def outP : Except Int (Nat × ByteArray) → Value
  | .ok (i, s) => .tuple ⟨[.int .i64 (i : Int), .string s, .int .i64 0]⟩
  | .error e => .tuple ⟨[.int .i64 0, .string (ba []), .int .i64 e]⟩
theorem ends_only {t : Tre} {s : ByteArray} {e : Int} (h : findT t s = .error e) : e ≠ 0 := by
  have go : ∀ {l : List ByteArray} {i : Nat}, goF t i l = .error e → e ≠ 0 := by
    intro l
    induction l with
    | nil => intro i h; cases h
    | cons s l ih =>
      intro i h
      unfold goF at h
      split at h
      · split at h
        · cases h; decide
        · exact ih h
      · cases h; decide
  unfold findT at h
  split at h
  · split at h
    · cases h; decide
    · exact go h
  · cases h; decide
theorem lastP_size {s : ByteArray} (_hs : s.size ≤ 9223372036854775807) : (lastP s).1.size ≤ 9223372036854775807 := by
  unfold lastP
  split
  · simp [ba_size]
  · rename_i l hl
    split
    · simp [ba_size]
    · unfold joinP1
      split
      · rename_i h2
        have := (splitP_some h2).1
        dsimp only
        omega
      · simp [ba_size]
/-! ### the program's -/
theorem placeC_ok {x : Ent} {s : ByteArray} {z : Addr} {V : View} (h : V.cell? z = some (.string s)) : CallV Tryd.prog 86 ⟨[entV x, .pointer (some z)]⟩ V fun r V' => r = .bool (decide (x.name = s)) ∧ V' = V := by
  refine f86_x ?_
  unfold f86_n
  exact fun _ => ⟨s, h, rfl, rfl⟩
theorem indexFuncE_ok {p : Ent → Bool} {s : Sl} {l : List Ent} {V : View} {g : FuncId} {xs ys : List Value} (h : SlR V s l)
    (hp : ∀ n ∈ l, CallV Tryd.prog g ⟨xs ++ [entV n] ++ ys⟩ V fun r V' => r = .bool (p n) ∧ V' = V) :
    CallV Tryd.prog 85 ⟨[.slice s.a s.n s.c, .func (.func g) ⟨xs⟩ ⟨ys⟩]⟩ V fun r V' => r = .int .i64 (idxI p l) ∧ V' = V := by
  refine f85_x ?_
  unfold f85_n
  have hn := h.n; have hlim := h.lim
  refine loop1 (k := .int .i64) (fun (x : Int) V' => V' = V ∧ 0 ≤ x ∧ x ≤ s.n ∧ ∀ j (hj : j < l.length), (j : Int) < x → p l[j] = false) (fun (x : Int) _ => s.n - x.toNat) ⟨rfl, by omega, by omega, fun j _ hj => by omega⟩ ?_
  rintro (x : Int) V' ⟨rfl, h0, h1, h2⟩
  refine br_intro (fun hlt => ?_) (fun hge => ?_)
  · have hlt : x < s.n := by simpa using hlt
    obtain ⟨ad, hx, ha, hc, _⟩ := h.ent h0 hlt
    refine ⟨h0, hlt, ad, ha, _, _, hc, (hp _ (List.getElem_mem hx)).mono ?_⟩
    rintro r V1 ⟨rfl, rfl⟩
    refine ⟨_, rfl, br_intro (fun hb => ⟨?_, rfl⟩) (fun hb => ⟨inI64 (by omega) (by omega), ⟨rfl, by omega, by omega, fun j hj hjx => ?_⟩, by omega⟩)⟩
    · rw [idxI_first p l x.toNat hx (fun j hj => h2 j (by omega) (by omega)) hb]
      congr 1; omega
    · by_cases e : (j : Int) < x
      · exact h2 j hj e
      · have : j = x.toNat := by omega
        subst this; exact hb
  · have hge : ¬ x < s.n := by simpa using hge
    refine ⟨?_, rfl⟩
    rw [idxI_none p l fun y hy => ?_]
    obtain ⟨j, hj, rfl⟩ := List.getElem_of_mem hy
    exact h2 j hj (by omega)
theorem place_ok {x : Sl} {l : List Ent} {s : ByteArray} {V : View} (h : SlR V x l) : CallV Tryd.prog 73 ⟨[.slice x.a x.n x.c, .string s]⟩ V fun r V' => r = .int .i64 (idxI (fun e : Ent => decide (e.name = s)) l) ∧ V.Le V' := by
  refine f73_x ?_
  unfold f73_n
  intro b hb
  have hle := View.put_le (o := .cells ⟨[.string s]⟩ 9 (0, 0)) hb
  refine (indexFuncE_ok (xs := []) (ys := [.pointer (some ⟨b, 0, none⟩)]) (p := fun e : Ent => decide (e.name = s)) (h.mono hle) (fun n _ => placeC_ok (x := n) (cell_of_see (View.see_put_same _ _ _) rfl))).mono ?_
  rintro r V1 ⟨rfl, rfl⟩
  exact ⟨_, rfl, rfl, hle⟩
theorem nameFind_ok {x : Sl} {l : List Ent} {s : ByteArray} {V : View} (h : SlR V x l) : CallV Tryd.prog 60 ⟨[.slice x.a x.n x.c, .string s]⟩ V fun r V' => r = .int .i64 (atI l s) ∧ V.Le V' := by
  refine f60_x ?_
  unfold f60_n
  refine (place_ok h).mono ?_
  rintro r V1 ⟨rfl, hV1⟩
  refine ⟨_, rfl, ?_⟩
  have hn := h.n
  unfold atI
  rcases idxI_find (fun e : Ent => decide (e.name = s)) l with ⟨h1, h2⟩ | ⟨i, hi, h1, h2⟩
  · rw [h1, h2]
    exact br_intro (fun _ => ⟨rfl, hV1⟩) (fun hc => absurd (of_decide_eq_false hc) (by omega))
  · rw [h1, h2]
    refine br_intro (fun hc => ?_) (fun _ => ?_)
    · have := of_decide_eq_true hc; omega
    · obtain ⟨ad, ha, hc, _⟩ := (h.mono hV1).entN hi
      rw [getD_at hi] at hc
      exact ⟨by omega, by omega, ad, ha, _, cellsAt_nth hc 1 rfl, rfl, hV1⟩
theorem SlR.strN {V : View} {s : Sl} {l : List ByteArray} (h : SlR V s l) {i : Nat} (hi : i < l.length) :
    ∃ ad, s.a = some ad ∧ V.cell? (ad.add (((i : Int)).toNat * 1)) = some (.string l[i]) ∧ l[i].size ≤ 9223372036854775807 := by
  have hn := h.n
  obtain ⟨ad, hx, ha, hc, hs⟩ := h.str (x := (i : Int)) (by omega) (by omega)
  exact ⟨ad, ha, hc, hs⟩
theorem dirGo_ok {s x : Sl} {t : Tre} {l : List ByteArray} {V : View} (h : SlR V s t) (k : SlR V x l) (h12 : t.length = 12) (hnode : ∀ n ∈ t, ∀ e ∈ n.ents, 1 ≤ e.node ∧ e.node < 12) : CallV Tryd.prog 33 ⟨[treV s, .slice x.a x.n x.c]⟩ V fun r V' => r = outF (goF t 0 l) ∧ V.Le V' := by
  refine f33_x ?_
  unfold f33_n
  have hn := h.n; have kn := k.n; have klim := k.lim
  refine fun _ => loop2 (k := .int .i64) (l := .int .i64) (fun (y : Int) (j : Int) V' => ∃ q i : Nat, y = q ∧ j = i ∧ q < 12 ∧ i ≤ l.length ∧ goF t 0 l = goF t q (l.drop i) ∧ V.Le V') (fun _ (j : Int) _ => l.length - j.toNat) ⟨0, 0, rfl, rfl, by omega, by omega, rfl, View.Le.refl _⟩ ?_
  rintro (y : Int) (j : Int) V1 ⟨q, i, rfl, rfl, hq, hi, hG, hV1⟩
  refine br_intro (fun hlt => ?_) (fun hge => ?_)
  · have hlt : i < l.length := by have := of_decide_eq_true hlt; omega
    obtain ⟨ad, ha, hc, hsz⟩ := (k.mono hV1).strN hlt
    obtain ⟨ad2, sq, en, ha2, hc2, hN⟩ := (h.mono hV1).nodN (i := q) (by omega)
    have hd : l.drop i = l[i] :: l.drop (i + 1) := (List.getElem_cons_drop (h := hlt)).symm
    rw [hd, goF_cons] at hG
    refine ⟨by omega, by omega, ad, ha, _, hc, by omega, by omega, ad2, ha2, _, cellsAt_nth hc2 0 rfl, br_intro (fun hb => ?_) (fun hb => ⟨by omega, by omega, ad2, ha2, en, cellsAt_nth hc2 4 rfl, (nameFind_ok hN.ents).mono ?_⟩)⟩
    · have hb : ¬ kindT t q = 2 := of_decide_eq_false (not_t hb)
      rw [if_neg hb] at hG
      rw [hG]; exact ⟨rfl, hV1⟩
    · have hb : kindT t q = 2 := of_decide_eq_true (not_f hb)
      rw [if_pos hb] at hG
      rintro r V2 ⟨rfl, hV2⟩
      have hr := atI_range (s := l[i]) (hnode _ (getD_mem (t := t) (i := q) (by omega)))
      refine ⟨_, rfl, br_intro (fun h0 => ?_) (fun h0 => ?_)⟩
      · have h0 := of_decide_eq_true h0
        rw [if_pos (show atI (entsT t q) l[i] < 0 from h0)] at hG
        rw [hG]; exact ⟨rfl, hV1.trans hV2⟩
      · have h0 := of_decide_eq_false h0
        rw [if_neg (show ¬ atI (entsT t q) l[i] < 0 from h0)] at hG
        exact ⟨inI64 (by omega) (by omega), ⟨(atI (entsT t q) l[i]).toNat, i + 1, by unfold entsT; omega, by omega, by unfold entsT; omega, by omega, hG, hV1.trans hV2⟩, by omega⟩
  · have hge : i = l.length := by have := of_decide_eq_false hge; omega
    subst hge
    rw [List.drop_length] at hG
    rw [hG]; exact ⟨rfl, hV1⟩
theorem dirFind_ok {s : Sl} {t : Tre} {p : ByteArray} {V : View} (h : SlR V s t) (hp : p.size ≤ 9223372036854775807) (hg : Glo V) : CallV Tryd.prog 12 ⟨[treV s, .string p]⟩ V fun r V' => r = outF (findT t p) ∧ V.Le V' := by
  refine f12_x ?_
  unfold f12_n
  refine fun _ => (mayT_ok h).mono ?_
  rintro r V1 ⟨rfl, hV1⟩
  unfold findT
  refine ⟨_, rfl, br_intro (fun hb => ⟨by rw [if_neg (by rw [not_t hb]; decide)]; rfl, hV1⟩) (fun hb => ?_)⟩
  have hM := not_f hb
  rw [if_pos hM]
  refine (pathSplit_ok hp (hg.mono hV1)).mono ?_
  rintro r V2 ⟨⟨x, e, rfl, hx⟩, hV2⟩
  have hV02 := hV1.trans hV2
  refine ⟨x, e, rfl, ?_⟩
  cases hS : splitP p with
  | none =>
    rw [hS] at hx
    obtain ⟨rfl, rfl⟩ := hx
    exact br_intro (fun _ => ⟨rfl, hV02⟩) (fun h => absurd h (by decide))
  | some l =>
    rw [hS] at hx
    obtain ⟨rfl, hx⟩ := hx
    refine br_intro (fun h => absurd h (by decide)) (fun _ => (dirGo_ok (h.mono hV02) hx (mayT_all hM).1 (mayT_node hM)).mono ?_)
    rintro r V3 ⟨rfl, hV3⟩
    show ∃ _ _, outF _ = _ ∧ _
    cases hG : goF t 0 l with
    | ok q => exact ⟨_, _, rfl, by simp only [hG]; rfl, hV02.trans hV3⟩
    | error e => exact ⟨_, _, rfl, by simp only [hG]; rfl, hV02.trans hV3⟩
theorem dirParent_ok {s : Sl} {t : Tre} {p : ByteArray} {V : View} (h : SlR V s t) (hp : p.size ≤ 9223372036854775807) (hg : Glo V) : CallV Tryd.prog 61 ⟨[treV s, .string p]⟩ V fun r V' => r = outP (parentT t p) ∧ V.Le V' := by
  refine f61_x ?_
  unfold f61_n
  refine fun _ => (mayT_ok h).mono ?_
  rintro r V1 ⟨rfl, hV1⟩
  unfold parentT
  refine ⟨_, rfl, br_intro (fun hb => ⟨by rw [if_neg (by rw [not_t hb]; decide)]; rfl, hV1⟩) (fun hb => ?_)⟩
  have hM := not_f hb
  rw [if_pos hM]
  refine (pathLast_ok hp (hg.mono hV1)).mono ?_
  rintro r V2 ⟨rfl, hV2⟩
  have hV02 := hV1.trans hV2
  refine ⟨_, _, _, rfl, br_intro (fun h0 => ?_) (fun h0 => ?_)⟩
  · have h0 := of_decide_eq_false (not_t h0)
    rw [if_neg h0]; exact ⟨rfl, hV02⟩
  · have h0 := of_decide_eq_true (not_f h0)
    rw [if_pos h0]
    refine (dirFind_ok (h.mono hV02) (lastP_size hp) (hg.mono hV02)).mono ?_
    rintro r V3 ⟨rfl, hV3⟩
    have hV03 := hV02.trans hV3
    have hn := h.n
    cases hF : findT t (lastP p).1 with
    | error e =>
      have he := ends_only hF
      refine ⟨0, e, rfl, br_intro (fun _ => ⟨rfl, hV03⟩) (fun hc => ?_)⟩
      exact absurd (of_decide_eq_true (not_f hc)) he
    | ok q =>
      have hq := findT_range hF
      refine ⟨q, 0, rfl, br_intro (fun h => absurd h (by decide)) (fun _ => ?_)⟩
      have h12 := (mayT_all hM).1
      obtain ⟨ad2, sq, en, ha2, hc2, hN⟩ := (h.mono hV03).nodN (i := q) (by omega)
      refine ⟨by omega, by omega, ad2, ha2, _, cellsAt_nth hc2 0 rfl, br_intro (fun hb => ?_) (fun hb => ?_)⟩
      · have hb : ¬ kindT t q = 2 := of_decide_eq_false (not_t hb)
        simp only [if_neg hb]; exact ⟨rfl, hV03⟩
      · have hb : kindT t q = 2 := of_decide_eq_true (not_f hb)
        simp only [if_pos hb]; exact ⟨rfl, hV03⟩
theorem free1_ok {n : Nod} {s e : Sl} {V : View} : CallV Tryd.prog 79 ⟨[nodV n s e]⟩ V fun r V' => r = .bool (decide (n.kind = 0)) ∧ V' = V := by
  refine f79_x ?_
  unfold f79_n
  exact fun _ => ⟨rfl, rfl⟩
theorem free_ok {s : Sl} {t : Tre} {V : View} (h : SlR V s t) : CallV Tryd.prog 66 ⟨[treV s]⟩ V fun r V' => r = .int .i64 (freeT t) ∧ V.Le V' := by
  refine f66_x ?_
  unfold f66_n
  refine fun _ => (mayT_ok h).mono ?_
  rintro r V1 ⟨rfl, hV1⟩
  unfold freeT
  refine ⟨_, rfl, br_intro (fun hb => ⟨by rw [if_neg (by rw [not_t hb]; decide)], hV1⟩) (fun hb => ?_)⟩
  rw [if_pos (not_f hb)]
  refine (indexFuncN_ok (xs := []) (ys := []) (p := fun n => decide (n.kind = 0)) (h.mono hV1) (fun n _ a b _ => free1_ok (n := n) (s := a) (e := b))).mono ?_
  rintro r V2 ⟨rfl, rfl⟩
  exact ⟨_, rfl, rfl, hV1⟩
theorem has_ok {s : Sl} {z : Addr} {a : Int} {V : View} (h : V.cell? (z.add 0) = some (.slice s.a s.n s.c)) : CallV Tryd.prog 63 ⟨[.int .i64 a, .pointer (some z)]⟩ V fun r V' => r = .bool (decide (0 ≤ a) && decide (a < s.n)) ∧ V' = V := by
  refine f63_x ?_
  unfold f63_n
  refine joinP_cut (fun q V' => q.1 = (decide (0 ≤ a) && decide (a < s.n)) ∧ V' = V) (br_intro (fun h0 => ⟨s, h, by rw [h0]; rfl, rfl⟩) (fun h0 => ⟨by rw [h0]; rfl, rfl⟩)) ?_
  rintro ⟨q, ⟨⟩⟩ V1 ⟨h1, hV⟩
  simp only at h1 hV
  subst h1 hV
  exact ⟨rfl, rfl⟩
theorem inside_ok {s : Sl} {t : Tre} {a b : Int} {V : View} (h : SlR V s t) : CallV Tryd.prog 38 ⟨[treV s, .int .i64 a, .int .i64 b]⟩ V fun r V' => r = .bool (insideT t a b) ∧ V.Le V' := by
  refine f38_x ?_
  unfold f38_n
  intro z hz
  have hp := View.put_le (o := .cells ⟨[.slice s.a s.n s.c]⟩ 24 (0, 0)) hz
  have hsee : (V.put z (.cells ⟨[.slice s.a s.n s.c]⟩ 24 (0, 0))).see z = some (.cells ⟨[.slice s.a s.n s.c]⟩ 24 (0, 0)) := View.see_put_same _ _ _
  generalize V.put z (.cells ⟨[.slice s.a s.n s.c]⟩ 24 (0, 0)) = V0 at *
  have hcell : ∀ {V' : View}, V0.Le V' → V'.cell? ⟨z, 0, none⟩ = some (.slice s.a s.n s.c) := fun hV => cell_of_see (hV.see _ _ hsee) rfl
  have h' := h.mono hp
  have hn := h.n
  refine joinP_cut (fun q V' => q.1 = insideT t a b ∧ V0.Le V') ⟨s, cellsAt_one.2 (hcell (View.Le.refl _)), (mayT_ok h').mono ?_⟩ ?_
  · rintro r V1 ⟨rfl, hV1⟩
    unfold insideT
    refine ⟨_, rfl, br_intro (fun hM => ?_) (fun hM => ⟨by rw [hM]; rfl, hV1⟩)⟩
    have h12 := (mayT_all hM).1
    have hs12 : (s.n : Int) = 12 := by omega
    refine (has_ok (s := s) (hcell hV1)).mono ?_
    rintro r V2 ⟨rfl, rfl⟩
    rw [hs12]
    refine ⟨_, rfl, br_intro (fun ha => (has_ok (s := s) (hcell hV1)).mono ?_) (fun ha => ⟨by
      rw [hM, Bool.true_and, ha]; rfl, hV1⟩)⟩
    rintro r V3 ⟨rfl, rfl⟩
    rw [hs12]
    refine ⟨_, rfl, br_intro (fun hb => ?_) (fun hb => ⟨by
      rw [hM, Bool.true_and, ha, Bool.true_and, hb]; rfl, hV1⟩)⟩
    have ha' : 0 ≤ a ∧ a < 12 := by simpa using ha
    have hb' : 0 ≤ b ∧ b < 12 := by simpa using hb
    obtain ⟨ad, sq, en, had, hc, hN⟩ := (h'.mono hV1).nodN (i := a.toNat) (by omega)
    refine ⟨s, hcell hV1, by omega, by omega, ad, had, _, cellsAt_nth hc 0 rfl, br_intro (fun hk => ?_) (fun hk => ⟨?_, hV1⟩)⟩
    · have hk : kindT t a.toNat = 2 := of_decide_eq_true hk
      have hbl := below_ok (a := a.toNat) (h'.mono hV1) h12 (by omega) (fun n hn e he => by have := mayT_node hM n hn e he; omega)
      rw [show ((a.toNat : Nat) : Int) = a by omega] at hbl
      refine ⟨s, cellsAt_one.2 (hcell hV1), hbl.mono ?_⟩
      rintro r V4 ⟨y, rfl, hy, hV4⟩
      have hyn := hy.n
      simp only [List.length_map, List.length_range] at hyn
      obtain ⟨ad4, hx4, ha4, hc4⟩ := hy.bool (x := b) (by omega) (by omega)
      refine ⟨y, rfl, by omega, by omega, ad4, ha4, _, hc4, ?_, hV1.trans hV4⟩
      rw [hM, decide_eq_true ha'.1, decide_eq_true ha'.2, decide_eq_true hb'.1, decide_eq_true hb'.2, decide_eq_true hk]
      simp
    · have hk : ¬ kindT t a.toNat = 2 := of_decide_eq_false hk
      rw [decide_eq_false hk]; simp
  · rintro ⟨q, ⟨⟩⟩ V1 ⟨h1, hV⟩
    simp only at h1
    subst h1
    exact ⟨rfl, hp.trans hV⟩
/-! ### awake -/
theorem split_top : splitP (ba [47]) = some [] := by decide
theorem split_a : splitP (ba [47, 97]) = some [ba [97]] := by decide
theorem last_a : lastP (ba [47, 97]) = (ba [47], ba [97], 0) := by
  unfold lastP
  rw [split_a]
  decide
theorem find_top : findT firstT (ba [47]) = .ok 0 := by
  unfold findT; rw [if_pos mayT_first, split_top]; rfl
theorem find_a : findT firstT (ba [47, 97]) = .error 8 := by
  unfold findT; rw [if_pos mayT_first, split_a]; rfl
theorem parent_a : parentT firstT (ba [47, 97]) = .ok (0, ba [97]) := by
  unfold parentT
  rw [if_pos mayT_first, last_a, if_pos rfl, find_top]
  rfl
theorem inside_top : insideT firstT 0 0 = true := by
  unfold insideT
  rw [mayT_first]
  have : metB firstT 0 0 = true := metB_iff.2 .refl
  simp only [Int.toNat_zero, this]
  decide
theorem free_first : freeT firstT = 1 := by
  unfold freeT; rw [if_pos mayT_first]; decide
end Go.Proofs.YtdlgpolngnkiaaaDoor

/- The contract of the reference's Name. -/
namespace Go.Proofs.YtdlgpolngnkiaaaDoor
open Go
theorem refName_ok {s : ByteArray} {V : View} (hs : s.size ≤ 9223372036854775807) : CallV Tryd.prog 19 ⟨[.string s]⟩ V fun r V' => r = .bool (mayB s) ∧ V' = V := by
  refine f19_x ?_
  unfold f19_n
  refine br_intro (fun h => ⟨?_, rfl⟩) (fun h => ?_)
  · congr 1
    symm
    unfold mayB
    rw [Bool.and_eq_false_iff]
    right
    rw [Bool.eq_false_iff]
    intro h2
    simp at h h2
    simp [h2] at h
    omega
  have hpre : (1 ≤ s.size && s.size ≤ 8 && !decide (s = ByteArray.mk #[46]) && !decide (s = ByteArray.mk #[46, 46])) = true := by
    simp at h ⊢
    refine ⟨⟨by omega, h.1.2⟩, h.2⟩
  refine loop1 (k := .int .i64) (fun (x : Int) V' => V' = V ∧ 0 ≤ x ∧ x ≤ s.size ∧ (s.data.toList.take x.toNat).all (fun b => okB b.toNat) = true) (fun (x : Int) _ => s.size - x.toNat) ⟨rfl, by omega, by omega, rfl⟩ ?_
  rintro (x : Int) V' ⟨rfl, h0, h1, h2⟩
  have hsz : s.data.toList.length = s.size := by simp
  refine br_intro (fun hlt => ?_) (fun hge => ?_)
  · have hlt : x < s.size := by simpa using hlt
    have hx : x.toNat < s.data.toList.length := by omega
    have hg : s.data.toList.getD x.toNat 0 = s.data.toList[x.toNat] := by rw [List.getD_eq_getElem?_getD, List.getElem?_eq_getElem hx]; rfl
    refine ⟨h0, hlt, ?_⟩
    rw [hg]
    generalize hb : s.data.toList[x.toNat] = b
    refine br_intro (fun hn => ⟨?_, rfl⟩) (fun hn => ⟨inI64 (by omega) (by omega), ⟨rfl, by omega, by omega, ?_⟩, by omega⟩)
    · have hk : okB b.toNat = false := by
        unfold okB
        simp at hn ⊢
        omega
      unfold mayB
      have : (s.data.toList.all fun b => okB b.toNat) = false := by
        rw [List.all_eq_false]
        exact ⟨b, hb ▸ List.getElem_mem hx, by simp [hk]⟩
      rw [show bl s = s.data.toList from rfl, this]; rfl
    · have hk : okB b.toNat = true := by
        unfold okB
        simp at hn ⊢
        omega
      rw [show (x + 1).toNat = x.toNat + 1 by omega, List.take_add_one, List.all_append, h2, List.getElem?_eq_getElem hx, hb]
      simp [hk]
  · have hge : ¬ x < s.size := by simpa using hge
    rw [List.take_of_length_le (by omega)] at h2
    refine ⟨?_, rfl⟩
    unfold mayB
    rw [show bl s = s.data.toList from rfl, h2, hpre]; rfl
end Go.Proofs.YtdlgpolngnkiaaaDoor

/- Contracts of the reference: entries, nodes, names; which inputs are light. -/
namespace Go.Proofs.YtdlgpolngnkiaaaDoor
open Go
theorem refL_ok {s : Sl} {l : List Ent} {V : View} (h : SlR V s l) : CallV Tryd.prog 47 ⟨[.slice s.a s.n s.c]⟩ V fun r V' => r = .bool (mayL l) ∧ V' = V := by
  refine f47_x ?_
  unfold f47_n
  have hn := h.n; have hc := h.c; have hm := h.lim
  refine br_intro (fun h10 => ⟨?_, rfl⟩) (fun h10 => ?_)
  · have h10 := of_decide_eq_true h10
    unfold mayL
    rw [decide_eq_false (show ¬ l.length ≤ 10 by omega), Bool.and_false]
  have h10 := of_decide_eq_false h10
  have e10 : mayL l = (List.range l.length).all (okE l) := by
    unfold mayL
    rw [decide_eq_true (show l.length ≤ 10 by omega), Bool.and_true]
  rw [e10]
  refine loop1 (k := .int .i64) (fun (x : Int) V' => V' = V ∧ ∃ i : Nat, x = i ∧ i ≤ l.length ∧ (List.range i).all (okE l) = true) (fun (x : Int) _ => s.n - x.toNat) ⟨rfl, 0, rfl, by omega, rfl⟩ ?_
  rintro (x : Int) V' ⟨rfl, i, rfl, hi, hall⟩
  refine br_intro (fun hlt => ?_) (fun hge => ?_)
  · have hlt : i < l.length := by have := of_decide_eq_true hlt; omega
    obtain ⟨ad, ha, hcell, hsz, hin⟩ := h.entN hlt
    refine ⟨by omega, by omega, ad, ha, _, _, hcell, fun _ => ?_⟩
    refine joinP_cut (fun q V1 => q.1 = (!okE l i) ∧ V1 = V') ⟨trivial, V', View.Le.refl _, (refName_ok hsz).mono ?_⟩ ?_
    · rintro r V1 ⟨rfl, rfl⟩
      have d1 : decide ((l.getD i default).node < 1) = !decide (1 ≤ (l.getD i default).node) := dec_not (by omega)
      have d2 : decide ((12 : Int) ≤ (l.getD i default).node) = !decide ((l.getD i default).node < 12) := dec_not (by omega)
      rw [d1, d2]
      refine ⟨_, rfl, View.Le.refl _, V1, View.Le.refl _, View.Le.refl _, br_intro (fun hs => ⟨?_, rfl⟩) (fun hs => br_intro (fun h0 => ?_) (fun h0 => ⟨?_, rfl⟩))⟩
      · unfold okE soleE; rw [not_t hs]; rfl
      · have h0 : 0 < i := by have := of_decide_eq_true h0; omega
        obtain ⟨j, rfl⟩ : ∃ j, i = j + 1 := ⟨i - 1, by omega⟩
        obtain ⟨ad2, ha2, hcell2, _, _⟩ := h.entN (i := j) (by omega)
        have e1 : (((j + 1 : Nat) : Int) - 1).toNat = j := by omega
        refine ⟨inI64 (by omega) (by omega), by omega, by omega, ad2, ha2, (l.getD j default).name, ?_, ?_, rfl⟩
        · rw [e1]; exact cellsAt_nth hcell2 0 rfl
        · unfold okE soleE
          rw [not_f hs, decide_eq_false (show ¬ j + 1 = 0 by omega), Nat.add_sub_cancel]
          generalize sLess (l.getD j default).name (l.getD (j + 1) default).name = g1
          cases decide (1 ≤ (l.getD (j + 1) default).node) <;> cases decide ((l.getD (j + 1) default).node < 12) <;> cases g1 <;> rfl
      · have h0 : i = 0 := by have := of_decide_eq_false h0; omega
        subst h0
        unfold okE soleE
        rw [not_f hs]
        cases decide (1 ≤ (l.getD 0 default).node) <;> cases decide ((l.getD 0 default).node < 12) <;> rfl
    · rintro ⟨q, ⟨⟩⟩ V1 ⟨h1, hV⟩
      simp only at h1 hV
      subst h1 hV
      dsimp only [unc]
      refine br_intro (fun hb => ⟨?_, rfl⟩) (fun hb => ⟨inI64 (by omega) (by omega), ⟨rfl, i + 1, by omega, by omega, all_step hall (by simpa using hb)⟩, by omega⟩)
      rw [all_stop hlt (by simpa using hb)]
  · have hge : i = l.length := by have := of_decide_eq_false hge; omega
    subst hge
    exact ⟨by rw [hall], rfl⟩
theorem refN_ok {n : Nod} {s e : Sl} {V : View} (h : NodR V s e n) : CallV Tryd.prog 28 ⟨[nodV n s e]⟩ V fun r V' => r = .bool (mayN n) ∧ V' = V := by
  refine f28_x ?_
  unfold f28_n
  have hsn := h.seqs.n; have hen := h.ents.n
  have e1 : decide (((s.n : Nat) : Int) = 0) = decide (n.seqs.length = 0) := decide_eq_decide.2 (by omega)
  have e2 : decide (((e.n : Nat) : Int) = 0) = decide (n.ents.length = 0) := decide_eq_decide.2 (by omega)
  have e3 : decide (((s.n : Nat) : Int) = 5) = decide (n.seqs.length = 5) := decide_eq_decide.2 (by omega)
  rw [e1, e2, e3]
  refine fun _ => br_intro (fun h0 => ⟨?_, rfl⟩) (fun h0 => br_intro (fun h2 => ?_) (fun h2 => br_intro (fun h1 => ?_) (fun h1 => ⟨?_, rfl⟩)))
  · have h0 : n.kind = 0 := of_decide_eq_true h0
    unfold mayN; rw [if_pos h0]
    cases decide (n.links = 0) <;> cases decide (n.size = 0) <;> cases decide (n.seqs.length = 0) <;> rfl
  · have h0 : ¬ n.kind = 0 := of_decide_eq_false h0
    have h2 : n.kind = 2 := of_decide_eq_true h2
    have h1 : ¬ n.kind = 1 := by omega
    have hm : mayN n = (decide (n.links = 1) && decide (n.size = 0) && decide (n.seqs.length = 0) && mayL n.ents) := by unfold mayN; rw [if_neg h0, if_neg h1, if_pos h2]
    refine joinP_cut (fun q V1 => q.1 = mayN n ∧ V1 = V) (br_intro (fun hb => (refL_ok h.ents).mono ?_) (fun hb => ⟨?_, rfl⟩)) ?_
    · rintro r V1 ⟨rfl, rfl⟩
      refine ⟨_, rfl, ?_, rfl⟩
      rw [hm]
      cases hA : decide (n.links = 1) <;> cases hB : decide (n.size = 0) <;> cases hC : decide (n.seqs.length = 0) <;> simp_all
    · rw [hm]
      cases hA : decide (n.links = 1) <;> cases hB : decide (n.size = 0) <;> cases hC : decide (n.seqs.length = 0) <;> simp_all
    · rintro ⟨q, ⟨⟩⟩ V1 ⟨h1, hV⟩
      simp only at h1 hV
      subst h1 hV
      exact ⟨rfl, rfl⟩
  · have h0 : ¬ n.kind = 0 := of_decide_eq_false h0
    have h1 : n.kind = 1 := of_decide_eq_true h1
    have hm : mayN n = fileB n := by unfold mayN; rw [if_neg h0, if_pos h1]
    rw [hm]
    have d1 : decide (n.links < 0) = !decide (0 ≤ n.links) := dec_not (by omega)
    have d2 : decide ((120 : Int) < n.links) = !decide (n.links ≤ 120) := dec_not (by omega)
    have d3 : decide (n.size < 0) = !decide (0 ≤ n.size) := dec_not (by omega)
    have d4 : decide ((80 : Int) < n.size) = !decide (n.size ≤ 80) := dec_not (by omega)
    rw [d1, d2, d3, d4]
    have hcond : (bif bif bif bif bif !decide (0 ≤ n.links) then true else !decide (n.links ≤ 120) then true else !decide (0 ≤ n.size) then true else !decide (n.size ≤ 80) then true else !decide (n.seqs.length = 5) then true else !decide (n.ents.length = 0)) = !(within n.links 120 && within n.size 80 && decide (n.seqs.length = 5) && decide (n.ents.length = 0)) := by
      unfold within
      cases decide (0 ≤ n.links) <;> cases decide (n.links ≤ 120) <;> cases decide (0 ≤ n.size) <;> cases decide (n.size ≤ 80) <;> cases decide (n.seqs.length = 5) <;> cases decide (n.ents.length = 0) <;> rfl
    rw [hcond]
    refine br_intro (fun hb => ⟨?_, rfl⟩) (fun hb => ?_)
    · have hb := not_t hb
      unfold fileB; rw [hb]; rfl
    · have hb := not_f hb
      have h5 : n.seqs.length = 5 := by simp at hb; exact hb.1.2
      refine loop1 (k := .int .i64) (fun (x : Int) V' => V' = V ∧ ∃ i : Nat, x = i ∧ i ≤ n.seqs.length ∧ (List.range i).all (okS n.size n.seqs) = true) (fun (x : Int) _ => s.n - x.toNat) ⟨rfl, 0, rfl, by omega, rfl⟩ ?_
      rintro (x : Int) V' ⟨rfl, i, rfl, hi, hall⟩
      refine br_intro (fun hlt => ?_) (fun hge => ?_)
      · have hlt : i < n.seqs.length := by have := of_decide_eq_true hlt; omega
        obtain ⟨ad, ha, hcell, hin⟩ := h.seqs.intN hlt
        refine ⟨by omega, by omega, ad, ha, _, hcell, ?_⟩
        have d5 : decide (n.seqs.getD i 0 < 0) = !decide (0 ≤ n.seqs.getD i 0) := dec_not (by omega)
        have d6 : decide ((1099511627776 : Int) < n.seqs.getD i 0) = !decide (n.seqs.getD i 0 ≤ 1099511627776) := dec_not (by omega)
        rw [d5, d6]
        have hok : okS n.size n.seqs i = ((decide (0 ≤ n.seqs.getD i 0) && decide (n.seqs.getD i 0 ≤ 1099511627776)) && !(decide (n.size ≤ (i : Int) * 16) && !decide (n.seqs.getD i 0 = 0))) := rfl
        refine joinP_cut (fun q V1 => q.1 = (!okS n.size n.seqs i) ∧ V1 = V') (br_intro (fun hc => ⟨?_, rfl⟩) (fun hc => br_intro (fun hz => ⟨inI64 (by omega) (by omega), ?_, rfl⟩) (fun hz => ⟨?_, rfl⟩))) ?_
        · rw [hok]
          cases hA : decide (0 ≤ n.seqs.getD i 0) <;> cases hB : decide (n.seqs.getD i 0 ≤ 1099511627776) <;> rw [hA, hB] at hc <;> first | rfl | cases hc
        · rw [hok, not_t hz]
          cases hA : decide (0 ≤ n.seqs.getD i 0) <;> cases hB : decide (n.seqs.getD i 0 ≤ 1099511627776) <;> rw [hA, hB] at hc <;> first | (cases decide (n.size ≤ (i : Int) * 16) <;> rfl) | cases hc
        · rw [hok, not_f hz]
          cases hA : decide (0 ≤ n.seqs.getD i 0) <;> cases hB : decide (n.seqs.getD i 0 ≤ 1099511627776) <;> rw [hA, hB] at hc <;> first | (cases decide (n.size ≤ (i : Int) * 16) <;> rfl) | cases hc
        · rintro ⟨q, ⟨⟩⟩ V2 ⟨h1, hV⟩
          simp only at h1 hV
          subst h1 hV
          dsimp only [unc]
          refine br_intro (fun hq => ⟨?_, rfl⟩) (fun hq => ⟨inI64 (by omega) (by omega), ⟨rfl, i + 1, by omega, by omega, all_step hall (by simpa using hq)⟩, by omega⟩)
          unfold fileB
          rw [all_stop hlt (by simpa using hq), Bool.and_false]
      · have hge : i = n.seqs.length := by have := of_decide_eq_false hge; omega
        subst hge
        refine ⟨?_, rfl⟩
        unfold fileB; rw [hb, hall]; rfl
  · have h0 : ¬ n.kind = 0 := of_decide_eq_false h0
    have h1 : ¬ n.kind = 1 := of_decide_eq_false h1
    have h2 : ¬ n.kind = 2 := of_decide_eq_false h2
    unfold mayN; rw [if_neg h0, if_neg h1, if_neg h2]
theorem wrap_of_in {n : Int} (h : inI .i64 n) : IntKind.wrap .i64 n = n := by
  have h := inI64_iff.1 h
  unfold IntKind.wrap
  simp [IntKind.signed, IntKind.bits]
  omega
/-! ### which inputs are light -/
theorem light13s_ok {s : Sl} {l : List Ent} {V : View} (h : SlR V s l) : CallV Tryd.prog 46 ⟨[.slice s.a s.n s.c]⟩ V fun r V' => ∃ x : Int, r = .int .i64 x ∧ 0 ≤ x ∧ x ≤ 1 ∧ (x = 0 → l.length ≤ 60) ∧ ((l.length ≤ 10 ∧ ∀ e ∈ l, e.name.size ≤ 8) → x = 0) ∧ V' = V := by
  refine f46_x ?_
  unfold f46_n
  have hn := h.n; have hm := h.lim
  refine loop2 (k := .int .i64) (l := .int .i64) (fun (x : Int) (j : Int) V' => V' = V ∧ ∃ i : Nat, j = i ∧ i ≤ l.length ∧ ((l.length ≤ 10 ∧ ∀ e ∈ l, e.name.size ≤ 8) → 0 ≤ x ∧ x ≤ 8 * i)) (fun _ (j : Int) _ => s.n - j.toNat) ⟨rfl, 0, rfl, by omega, fun _ => by omega⟩ ?_
  rintro (x : Int) (j : Int) V' ⟨rfl, i, rfl, hi, hx⟩
  refine br_intro (fun hlt => ?_) (fun hge => br_intro (fun hc => ⟨1, rfl, by decide, by decide, fun h => absurd h (by decide), fun hs => ?_, rfl⟩) (fun hc => ⟨0, rfl, by decide, by decide, fun _ => ?_, fun _ => rfl, rfl⟩))
  · have hlt : i < l.length := by have := of_decide_eq_true hlt; omega
    obtain ⟨ad, ha, hcell, _, _⟩ := h.entN hlt
    have hw : IntKind.wrap .i64 ((i : Int) + 1) = (i : Int) + 1 := wrap_of_in (inI64 (by omega) (by omega))
    refine ⟨by omega, by omega, ad, ha, _, _, hcell, fun _ => ?_⟩
    rw [hw]
    refine ⟨⟨rfl, i + 1, by omega, by omega, fun hs => ?_⟩, by omega⟩
    have h1 := hx hs
    have h2 := hs.2 (l.getD i default) (by rw [getD_at hlt]; exact List.getElem_mem _)
    have h3 := hs.1
    rw [wrap_of_in (inI64 (by omega) (by omega))]
    omega
  · exfalso
    have h1 := hx hs
    have h3 := hs.1
    rw [decide_eq_false (show ¬ (60 : Int) < (s.n : Int) by omega)] at hc
    have := of_decide_eq_true hc
    omega
  · by_cases h6 : (60 : Int) < (s.n : Int)
    · rw [decide_eq_true h6] at hc; cases hc
    · omega
theorem light14s_ok {n : Nod} {s e : Sl} {V : View} (h : NodR V s e n) : CallV Tryd.prog 27 ⟨[nodV n s e]⟩ V fun r V' => ∃ x : Int, r = .int .i64 x ∧ 0 ≤ x ∧ x ≤ 1 ∧ (x = 0 → n.seqs.length ≤ 60 ∧ n.ents.length ≤ 60) ∧ (mayN n = true → x = 0) ∧ V' = V := by
  refine f27_x ?_
  unfold f27_n
  have hn := h.seqs.n
  refine fun _ => br_intro (fun hb => ⟨1, rfl, by decide, by decide, fun h => absurd h (by decide), fun hm => ?_, rfl⟩) (fun hb => (light13s_ok h.ents).mono ?_)
  · exfalso
    have hb := of_decide_eq_true hb
    have := mayN_seqs hm
    omega
  · have hb := of_decide_eq_false hb
    rintro r V' ⟨x, rfl, h1, h2, h3, h4, rfl⟩
    exact ⟨x, rfl, x, rfl, h1, h2, fun hx => ⟨by omega, h3 hx⟩, fun hm => h4 ⟨mayL_len (mayN_ents hm), fun e he => (mayB_size (mayL_node (mayN_ents hm) he).2.2).2⟩, rfl⟩
/-- A tree that can be gone through. -/
def LightT (t : Tre) : Prop := t.length ≤ 40 ∧ ∀ n ∈ t, n.seqs.length ≤ 60 ∧ n.ents.length ≤ 60
theorem light15s_ok {s : Sl} {t : Tre} {V : View} (h : SlR V s t) : CallV Tryd.prog 9 ⟨[treV s]⟩ V fun r V' => ∃ x : Int, r = .int .i64 x ∧ 0 ≤ x ∧ x ≤ 40 ∧ (x = 0 → LightT t) ∧ ((t.length = 12 ∧ ∀ n ∈ t, mayN n = true) → x = 0) ∧ V' = V := by
  refine f9_x ?_
  unfold f9_n
  have hn := h.n
  refine fun _ => br_intro (fun h40 => ⟨1, rfl, by decide, by decide, fun h => absurd h (by decide), fun hm => ?_, rfl⟩) (fun h40 => ?_)
  · exfalso
    have h40 := of_decide_eq_true h40
    omega
  have h40 := of_decide_eq_false h40
  refine loop2 (k := .int .i64) (l := .int .i64) (fun (x : Int) (j : Int) V' => V' = V ∧ ∃ i : Nat, j = i ∧ i ≤ t.length ∧ 0 ≤ x ∧ x ≤ i ∧ (x = 0 → ∀ n ∈ t.take i, n.seqs.length ≤ 60 ∧ n.ents.length ≤ 60) ∧ ((t.length = 12 ∧ ∀ n ∈ t, mayN n = true) → x = 0)) (fun _ (j : Int) _ => s.n - j.toNat) ⟨rfl, 0, rfl, by omega, by omega, by omega, fun _ n hn => by simp at hn, fun _ => rfl⟩ ?_
  rintro (x : Int) (j : Int) V' ⟨rfl, i, rfl, hi, h0, h1, h2, h3⟩
  refine br_intro (fun hlt => ?_) (fun hge => ?_)
  · have hlt : i < t.length := by have := of_decide_eq_true hlt; omega
    obtain ⟨ad, sq, en, ha, hc, hN⟩ := h.nodN hlt
    refine ⟨by omega, by omega, ad, ha, _, _, _, sq, en, hc, fun _ => (light14s_ok hN).mono ?_⟩
    rintro r V1 ⟨y, rfl, y0, y1, y2, y3, rfl⟩
    refine ⟨y, rfl, inI64 (by omega) (by omega), inI64 (by omega) (by omega), ⟨rfl, i + 1, by omega, by omega, by omega, by omega, fun hxy n hn => ?_, fun hm => ?_⟩, by omega⟩
    · rw [List.take_add_one, List.getElem?_eq_getElem hlt] at hn
      rcases List.mem_append.1 hn with hn | hn
      · exact h2 (by omega) n hn
      · simp at hn
        subst hn
        have := y2 (by omega)
        rw [getD_at hlt] at this; exact this
    · have := y3 (hm.2 _ (by rw [getD_at hlt]; exact List.getElem_mem _))
      have := h3 hm
      omega
  · have hge : i = t.length := by have := of_decide_eq_false hge; omega
    subst hge
    rw [List.take_length] at h2
    exact ⟨x, rfl, h0, by omega, fun hx => ⟨by omega, h2 hx⟩, h3, rfl⟩
theorem light15_ok {s : Sl} {t : Tre} {V : View} (h : SlR V s t) : CallV Tryd.prog 9 ⟨[treV s]⟩ V fun r V' => ∃ x : Int, r = .int .i64 x ∧ 0 ≤ x ∧ x ≤ 40 ∧ (x = 0 → t.length ≤ 40) ∧ V' = V :=
  (light15s_ok h).mono fun _ _ ⟨x, a, b, c, d, _, e⟩ => ⟨x, a, b, c, fun h => (d h).1, e⟩
end Go.Proofs.YtdlgpolngnkiaaaDoor

/- The reference's MayTree: it answers as dir.May does. -/
namespace Go.Proofs.YtdlgpolngnkiaaaDoor
open Go
def nodK (t : Tre) (i : Nat) : Bool := mayN (t.getD i default) && (entsT t i).all fun e => !decide (kindT t e.node.toNat = 0)
abbrev namedT (t : Tre) (a : Int) : Nat := (allE t).countP (fun (x : Ent) => decide (x.node = a))
noncomputable def onT (t : Tre) (i : Nat) : Bool := metB t 0 i && decide (kindT t i = 2)
noncomputable def hang2 (t : Tre) (i : Nat) : Bool :=
  if kindT t i = 2 then onT t i && (decide (i = 0) || decide (((namedT t i : Nat) : Int) = 1)) else if kindT t i = 1 then decide ((t.getD i default).links = (namedT t i : Nat)) else true
noncomputable def refMay (t : Tre) : Bool := decide (t.length = 12) && decide (kindT t 0 = 2) && (List.range 12).all (nodK t) && apartL (allS t) && (List.range 12).all (hang2 t)
theorem kind_of {n : Nod} (h : mayN n = true) : n.kind = 0 ∨ n.kind = 1 ∨ n.kind = 2 := by
  unfold mayN at h
  split at h
  · rename_i hk; exact .inl hk
  · split at h
    · rename_i hk; exact .inr (.inl hk)
    · split at h
      · rename_i hk; exact .inr (.inr hk)
      · cases h
theorem refMay_eq (t : Tre) : refMay t = mayT t := by
  by_cases h12 : t.length = 12
  rotate_left
  · unfold refMay mayT; rw [decide_eq_false h12]; rfl
  by_cases hk : kindT t 0 = 2
  rotate_left
  · unfold refMay mayT; rw [decide_eq_false hk]; simp
  by_cases hall : t.all mayN = true
  rotate_left
  · unfold refMay mayT
    have h1 : t.all mayN = false := by simpa using hall
    have h2 : (List.range 12).all (nodK t) = false := by
      rw [List.all_eq_false] at h1 ⊢
      obtain ⟨n, hn, hm⟩ := h1
      obtain ⟨i, hi, rfl⟩ := List.getElem_of_mem hn
      refine ⟨i, List.mem_range.2 (by omega), ?_⟩
      unfold nodK
      rw [getD_at hi]
      simp [hm]
    rw [h1, h2]; simp
  have hall' : ∀ n ∈ t, mayN n = true := List.all_eq_true.1 hall
  have hmem : ∀ i, i < 12 → t.getD i default ∈ t := fun i hi => by rw [getD_at (by omega)]; exact List.getElem_mem _
  have hmn : ∀ i, i < 12 → mayN (t.getD i default) = true := fun i hi => hall' _ (hmem i hi)
  unfold refMay mayT
  rw [decide_eq_true h12, decide_eq_true hk, hall]
  simp only [Bool.true_and, Bool.and_true]
  have hcnt : ∀ i, i < 12 → (cnt 12 (allE t)).getD i 0 = (namedT t i : Nat) := fun i hi => cnt_get 12 _ hi
  have hin : ∀ (i : Nat) (e : Ent), i < 12 → e ∈ entsT t i → e ∈ allE t := fun i e hi he => List.mem_flatMap.2 ⟨_, hmem i hi, he⟩
  rw [Bool.eq_iff_iff]
  simp only [Bool.and_eq_true, List.all_eq_true, List.mem_range]
  constructor
  · rintro ⟨⟨hN, hA⟩, hH⟩
    refine ⟨fun i hi => ?_, hA⟩
    have h2 := hH i hi
    rw [hcnt i hi]
    unfold hang2 at h2
    unfold hangB
    split at h2
    · rename_i hk2
      rw [if_pos hk2]
      unfold onT at h2
      simp only [Bool.and_eq_true] at h2
      rw [h2.1.1, Bool.true_and, ← h2.2]
      congr 1
      exact decide_eq_decide.2 (by omega)
    · rename_i hk2
      rw [if_neg hk2]
      split at h2
      · rename_i hk1; rw [if_pos hk1]; exact h2
      · rename_i hk1
        rw [if_neg hk1]
        have hk0 : kindT t i = 0 := by
          rcases kind_of (hmn i hi) with h | h | h
          · exact h
          · exact absurd h hk1
          · exact absurd h hk2
        apply decide_eq_true
        have : namedT t i = 0 := by
          rw [List.countP_eq_zero]
          intro e he hd
          have hd := of_decide_eq_true hd
          obtain ⟨n, hn, hen⟩ := List.mem_flatMap.1 he
          obtain ⟨j, hj, rfl⟩ := List.getElem_of_mem hn
          have hj12 : j < 12 := by omega
          have h3 := hN j hj12
          unfold nodK at h3
          simp only [Bool.and_eq_true, List.all_eq_true] at h3
          have h4 := h3.2 e (by show e ∈ (t.getD j default).ents; rw [getD_at hj]; exact hen)
          rw [hd, Int.toNat_natCast] at h4
          simp [hk0] at h4
        omega
  · rintro ⟨hH, hA⟩
    have hB : ∀ i, i < 12 → hangB (t.getD i default) i (namedT t i : Nat) (metB t 0 i) = true := fun i hi => by rw [← hcnt i hi]; exact hH i hi
    refine ⟨⟨fun i hi => ?_, hA⟩, fun i hi => ?_⟩
    · unfold nodK
      rw [hmn i hi, Bool.true_and, List.all_eq_true]
      intro e he
      have hnode := mayL_node (mayN_ents (hmn i hi)) he
      obtain ⟨q, hq⟩ : ∃ q : Nat, e.node = q := ⟨e.node.toNat, by omega⟩
      rw [hq, Int.toNat_natCast]
      have hb := hB q (by omega)
      by_cases hk0 : kindT t q = 0
      · exfalso
        unfold hangB at hb
        have hk0' : (t.getD q default).kind = 0 := hk0
        rw [if_neg (by omega), if_neg (by omega)] at hb
        have hb := of_decide_eq_true hb
        have : 0 < namedT t q := List.countP_pos_iff.2 ⟨e, hin i e hi he, decide_eq_true hq⟩
        omega
      · rw [decide_eq_false hk0]; rfl
    · have hb := hB i hi
      unfold hangB at hb
      unfold hang2
      split at hb
      · rename_i hk2
        rw [if_pos (show kindT t i = 2 from hk2)]
        simp only [Bool.and_eq_true] at hb
        unfold onT
        rw [hb.1, decide_eq_true (show kindT t i = 2 from hk2), Bool.true_and, Bool.true_and, ← hb.2]
        congr 1
        exact decide_eq_decide.2 (by omega)
      · rename_i hk2
        rw [if_neg (show ¬ kindT t i = 2 from hk2)]
        split at hb
        · rename_i hk1; rw [if_pos (show kindT t i = 1 from hk1)]; exact hb
        · rename_i hk1; rw [if_neg (show ¬ kindT t i = 1 from hk1)]
/-- A map that holds 1 behind what was met. -/
def SeenM (V : View) (r : Nat) (l : List Int) : Prop := ∃ es cl, V.see r = some (.map es cl) ∧ IntK es.toList ∧ ∀ k, (vlk k es.toList).getD (.int .i64 0) = .int .i64 (if k ∈ l then 1 else 0)
theorem SeenM.put {V : View} {r : Nat} {l : List Int} (h : SeenM V r l) (x : Int) : ∃ es cl f, V.see r = some (.map es cl) ∧ mfind (.int .i64 x) es.toList 0 = some f ∧ found (.int .i64 0) f = .int .i64 (if x ∈ l then 1 else 0) ∧ SeenM (V.put r (mput es cl f (.int .i64 x) (.int .i64 1))) r (l ++ [x]) := by
  obtain ⟨es, cl, hs, hk, hv⟩ := h
  obtain ⟨f, hf, hfd, es', cl', hm, hk', hv'⟩ := mput_int (cl := cl) (k := x) (v := .int .i64 1) hk
  refine ⟨es, cl, f, hs, hf, by rw [hfd, hv], es', cl', by rw [View.see_put_same, hm], hk', fun k => ?_⟩
  rw [hv']
  by_cases e : k = x
  · rw [if_pos e, if_pos (by simp [e])]; rfl
  · rw [if_neg e, hv]
    by_cases hm : k ∈ l
    · rw [if_pos hm, if_pos (by simp [hm])]
    · rw [if_neg hm, if_neg (by simp [hm, e])]
theorem apart_snoc2 {l : List Int} {x : Int} (h : apartL l = true) : apartL (l ++ [x]) = !(!decide (x = 0) && decide (x ∈ l)) := by
  rw [apart_snoc h, count_snoc, if_pos rfl]
  have : decide (1 < l.count x + 1) = decide (x ∈ l) := decide_eq_decide.2 (by rw [← List.count_pos_iff]; omega)
  rw [this]
theorem refMay_false {t : Tre} (h : (decide (t.length = 12) && decide (kindT t 0 = 2) && (List.range 12).all (nodK t) && apartL (allS t)) = false ∨ (List.range 12).all (hang2 t) = false) : refMay t = false := by
  unfold refMay
  rcases h with h | h
  · rw [h]; rfl
  · rw [h, Bool.and_false]
theorem refMay_bad {t : Tre} {i : Nat} (hi : i < 12) (h : nodK t i = false) : refMay t = false := refMay_false (.inl (by rw [all_stop hi h]; simp))
theorem refMay_twice {t : Tre} (h : apartL (allS t) = false) : refMay t = false := refMay_false (.inl (by rw [h]; simp))
theorem mayTree_ok {s : Sl} {t : Tre} {V : View} (h : SlR V s t) : CallV Tryd.prog 10 ⟨[treV s]⟩ V fun r V' => r = .bool (mayT t) ∧ V.Le V' := by
  rw [← refMay_eq]
  refine f10_x ?_
  unfold f10_n
  have hn := h.n
  refine fun _ => joinP_cut (fun q V' => q.1 = (!(decide (t.length = 12) && decide (kindT t 0 = 2))) ∧ V' = V) (br_intro (fun hb => ⟨?_, rfl⟩) (fun hb => ?_)) ?_
  · have hb : ¬ t.length = 12 := by have := of_decide_eq_false (not_t hb); omega
    rw [decide_eq_false hb]; rfl
  · have hb : t.length = 12 := by have := of_decide_eq_true (not_f hb); omega
    obtain ⟨ad, sq, en, ha, hc, hN⟩ := h.nodN (i := 0) (by omega)
    refine ⟨by omega, by omega, ad, ha, _, cellsAt_nth hc 0 rfl, ?_, rfl⟩
    rw [decide_eq_true hb]; rfl
  rintro ⟨q, ⟨⟩⟩ V1 ⟨h1, hV⟩
  simp only at h1 hV
  subst h1 hV
  dsimp only [unc]
  refine br_intro (fun hb => ⟨?_, View.Le.refl _⟩) (fun hb r hr => ?_)
  · have hb := not_t hb
    rw [refMay_false (.inl (by rw [hb]; rfl))]
  have hb := not_f hb
  simp only [Bool.and_eq_true, decide_eq_true_eq] at hb
  obtain ⟨h12, hk0⟩ := hb
  have hfr := View.see_none_of_ge hr
  refine loop1 (k := .int .i64) (fun (x : Int) V' => ∃ i : Nat, x = i ∧ i ≤ 12 ∧ (List.range i).all (nodK t) = true ∧ apartL (allS (t.take i)) = true ∧ SeenM V' r (allS (t.take i)) ∧ V1.Le (V'.hide r)) (fun (x : Int) _ => 12 - x.toNat) ⟨0, rfl, by omega, rfl, rfl, ⟨_, _, View.see_put_same _ _ _, fun e he => (by cases he), fun k => rfl⟩, put_le_hide hfr (View.Le.refl _)⟩ ?_
  rintro (x : Int) V2 ⟨i, rfl, hi, hall, hap, hS2, hV2⟩
  have hV2' : V1.Le V2 := hV2.trans (View.hide_le _ _)
  refine br_intro (fun hlt => ?_) (fun hge => ?_)
  · have hlt : i < 12 := by have := of_decide_eq_true hlt; omega
    obtain ⟨ad, sq, en, ha, hc, hN⟩ := h.nodN (i := i) (by omega)
    refine ⟨by omega, by omega, ad, ha, _, _, _, sq, en, cellsAt_mono hV2' hc, fun _ => (refN_ok (hN.mono hV2')).mono ?_⟩
    rintro r1 V3 ⟨rfl, rfl⟩
    refine ⟨_, rfl, br_intro (fun hb => ⟨?_, hV2'⟩) (fun hb => ?_)⟩
    · rw [refMay_bad hlt (by unfold nodK; rw [not_t hb]; rfl)]
    have hm := not_f hb
    have hen := hN.ents.n
    have hsn := hN.seqs.n
    have hs5 := mayN_seqs hm
    have he10 := mayL_len (mayN_ents hm)
    refine loop1 (k := .int .i64) (fun (x : Int) V' => V' = V3 ∧ ∃ k : Nat, x = k ∧ k ≤ (entsT t i).length ∧ ((entsT t i).take k).all (fun e => !decide (kindT t e.node.toNat = 0)) = true) (fun (x : Int) _ => (entsT t i).length - x.toNat) ⟨rfl, 0, rfl, by omega, rfl⟩ ?_
    rintro (x : Int) V4 ⟨rfl, k, rfl, hk, hek⟩
    have hlene : (entsT t i).length = (t.getD i default).ents.length := rfl
    refine br_intro (fun hltk => ?_) (fun hge => ?_)
    · have hltk : k < (t.getD i default).ents.length := by have := of_decide_eq_true hltk; omega
      obtain ⟨ad, ha, hc, _, _⟩ := (hN.ents.mono hV2').entN hltk
      have hxm : (t.getD i default).ents.getD k default ∈ (t.getD i default).ents := by rw [getD_at hltk]; exact List.getElem_mem _
      have hq := mayL_node (mayN_ents hm) hxm
      obtain ⟨q, hqe⟩ : ∃ q : Nat, ((t.getD i default).ents.getD k default).node = q := ⟨((t.getD i default).ents.getD k default).node.toNat, by omega⟩
      obtain ⟨ad4, sq4, en4, ha4, hc4, _⟩ := (h.mono hV2').nodN (i := q) (by omega)
      refine ⟨by omega, by omega, ad, ha, _, _, hc, fun _ => ⟨by omega, by omega, ad4, ha4, (t.getD q default).kind, ?_, br_intro (fun hz => ⟨?_, hV2'⟩) (fun hz => ⟨inI64 (by omega) (by omega), ⟨rfl, k + 1, by omega, by omega, ?_⟩, by omega⟩)⟩⟩
      · rw [hqe]; exact cellsAt_nth hc4 0 rfl
      · have hz := of_decide_eq_true hz
        rw [refMay_bad hlt]
        unfold nodK
        rw [Bool.and_eq_false_iff]
        right
        rw [List.all_eq_false]
        exact ⟨_, hxm, by rw [hqe, Int.toNat_natCast, decide_eq_true (show kindT t q = 0 from hz)]; simp⟩
      · have hz := of_decide_eq_false hz
        rw [List.take_add_one, List.getElem?_eq_getElem (show k < (entsT t i).length from hltk), List.all_append, hek]
        have e1 : (entsT t i)[k]'hltk = (t.getD i default).ents.getD k default := (getD_at hltk).symm
        show (true && [(entsT t i)[k]'hltk].all _) = true
        rw [e1]
        simp only [List.all_cons, List.all_nil, hqe, Int.toNat_natCast, Bool.true_and, Bool.and_true]
        rw [decide_eq_false (show ¬ kindT t q = 0 from hz)]; rfl
    · have hge : k = (entsT t i).length := by have := of_decide_eq_false hge; omega
      subst hge
      rw [List.take_length] at hek
      have hnk : nodK t i = true := by unfold nodK; rw [hm, hek]; rfl
      have hpre := allS_prefix t (i + 1)
      rw [allS_take (by omega)] at hpre
      have htake := allS_take (t := t) (i := i) (by omega)
      generalize hnd : t.getD i default = nd at *
      refine loop1 (k := .int .i64) (fun (x : Int) V' => ∃ k : Nat, x = k ∧ k ≤ nd.seqs.length ∧ SeenM V' r (allS (t.take i) ++ nd.seqs.take k) ∧ apartL (allS (t.take i) ++ nd.seqs.take k) = true ∧ V1.Le (V'.hide r)) (fun (x : Int) _ => nd.seqs.length - x.toNat) ⟨0, rfl, by omega, by simpa using hS2, by simpa using hap, hV2⟩ ?_
      rintro (x : Int) V5 ⟨k, rfl, hk, hS5, hap5, hV5⟩
      have hV5' : V1.Le V5 := hV5.trans (View.hide_le _ _)
      refine br_intro (fun hltk => ?_) (fun hge => ?_)
      · have hltk : k < nd.seqs.length := by have := of_decide_eq_true hltk; omega
        obtain ⟨ad, ha, hc, _⟩ := (hN.seqs.mono hV5').intN hltk
        have etk : nd.seqs.take (k + 1) = nd.seqs.take k ++ [nd.seqs.getD k 0] := by rw [List.take_add_one, List.getElem?_eq_getElem hltk, getD_at0 hltk]; rfl
        have hpre2 : allS (t.take i) ++ nd.seqs.take (k + 1) <+: allS t := by
          refine List.IsPrefix.trans ?_ hpre
          rw [List.prefix_append_right_inj]
          exact List.take_prefix _ _
        rw [etk, ← List.append_assoc] at hpre2
        refine ⟨by omega, by omega, ad, ha, _, hc, ?_⟩
        generalize nd.seqs.getD k 0 = x at *
        obtain ⟨es, cl, f, hse, hmf, hfd, hput⟩ := hS5.put x
        refine joinP_cut (fun q V' => q.1 = (!apartL (allS (t.take i) ++ nd.seqs.take k ++ [x])) ∧ V' = V5) (br_intro (fun hx0 => ⟨trivial, es, cl, f, hse, hmf, _, hfd, ?_, rfl⟩) (fun hx0 => ⟨?_, rfl⟩)) ?_
        · rw [apart_snoc2 hap5, hx0, Bool.true_and, Bool.not_not]
          by_cases hm : x ∈ allS (t.take i) ++ nd.seqs.take k
          · rw [if_pos hm, decide_eq_true hm]; rfl
          · rw [if_neg hm, decide_eq_false hm]; rfl
        · rw [apart_snoc2 hap5, hx0]; rfl
        · rintro ⟨q, ⟨⟩⟩ V6 ⟨h1, hV⟩
          simp only at h1 hV
          subst h1 hV
          dsimp only [unc]
          refine br_intro (fun hb => ⟨?_, hV5'⟩) (fun hb => ⟨trivial, r, es, cl, f, rfl, hse, hmf, inI64 (by omega) (by omega), ⟨k + 1, by omega, by omega, ?_, ?_, hV5.trans (hide_le_put_hide r _)⟩, by omega⟩)
          · rw [refMay_twice (apart_prefix hpre2 (not_t hb))]
          · rw [etk, ← List.append_assoc]; exact hput
          · rw [etk, ← List.append_assoc]; exact not_f hb
      · have hge : k = nd.seqs.length := by have := of_decide_eq_false hge; omega
        subst hge
        rw [List.take_length] at hS5 hap5
        exact ⟨inI64 (by omega) (by omega), ⟨i + 1, by omega, by omega, all_step hall hnk, by rw [htake]; exact hap5, by rw [htake]; exact hS5, hV5⟩, by omega⟩
  · have hge : i = 12 := by have := of_decide_eq_false hge; omega
    subst hge
    rw [List.take_of_length_le (by omega)] at hap
    have hnod : ∀ i, i < 12 → nodK t i = true := fun i hi => List.all_eq_true.1 hall i (List.mem_range.2 hi)
    have hallN : ∀ n ∈ t, mayN n = true := fun n hn => by
      obtain ⟨j, hj, rfl⟩ := List.getElem_of_mem hn
      have := hnod j (by omega)
      unfold nodK at this
      rw [getD_at hj] at this
      simp only [Bool.and_eq_true] at this
      exact this.1
    have hR : refMay t = (List.range 12).all (hang2 t) := by
      unfold refMay
      rw [decide_eq_true h12, decide_eq_true hk0, hall, hap]; rfl
    rw [hR]
    have hE : ∀ n ∈ t, n.ents.length ≤ 10 := fun n hn => mayL_len (mayN_ents (hallN n hn))
    refine (reached_ok (h.mono hV2') h12 hallN hk0).mono ?_
    rintro r1 V3 ⟨y, rfl, hy, hV3⟩
    have hV13 := hV2'.trans hV3
    refine ⟨y, rfl, ?_⟩
    refine loop1 (k := .int .i64) (fun (x : Int) V' => V' = V3 ∧ ∃ i : Nat, x = i ∧ i ≤ 12 ∧ (List.range i).all (hang2 t) = true) (fun (x : Int) _ => 12 - x.toNat) ⟨rfl, 0, rfl, by omega, rfl⟩ ?_
    rintro (x : Int) V4 ⟨rfl, i, rfl, hi, hP⟩
    refine br_intro (fun hlt => ?_) (fun hge => ?_)
    · have hlt : i < 12 := by have := of_decide_eq_true hlt; omega
      obtain ⟨ad, sq, en, ha, hc, hN⟩ := (h.mono hV13).nodN (i := i) (by omega)
      refine ⟨by omega, by omega, ad, ha, _, _, _, sq, en, hc, fun _ => (named_ok (h.mono hV13) h12 hE).mono ?_⟩
      rintro r1 V5 ⟨rfl, rfl⟩
      refine ⟨_, rfl, ?_⟩
      have hyn := hy.n
      simp only [List.length_map, List.length_range] at hyn
      refine joinP_cut (fun q V' => q.1 = (!hang2 t i) ∧ V' = V5) (br_intro (fun h2 => ?_) (fun h2 => ⟨?_, rfl⟩)) ?_
      · have h2 : kindT t i = 2 := of_decide_eq_true h2
        obtain ⟨ad3, hx', ha3, hc3⟩ := hy.bool (x := (i : Int)) (by omega) (by omega)
        have e3 : ((List.range 12).map fun j => metB t 0 j && decide (kindT t j = 2))[((i : Int)).toNat] = onT t i := by simp [onT]
        rw [e3] at hc3
        refine ⟨by omega, by omega, ad3, ha3, _, hc3, ?_, rfl⟩
        unfold hang2
        rw [if_pos h2]
        have h2' : (t.getD i default).kind = 2 := h2
        rw [decide_eq_false (show ¬ (t.getD i default).kind = 1 by omega)]
        have d1 : decide ((0 : Int) < (i : Int)) = !decide (i = 0) := dec_not (by omega)
        rw [d1]
        cases onT t i <;> cases decide (i = 0) <;> cases decide (((namedT t i : Nat) : Int) = 1) <;> rfl
      · have h2 : ¬ kindT t i = 2 := of_decide_eq_false h2
        unfold hang2
        rw [if_neg h2]
        by_cases h1 : kindT t i = 1
        · rw [if_pos h1, decide_eq_true (show (t.getD i default).kind = 1 from h1)]; rfl
        · rw [if_neg h1, decide_eq_false (show ¬ (t.getD i default).kind = 1 from h1)]; rfl
      · rintro ⟨q, ⟨⟩⟩ V6 ⟨h1, hV⟩
        simp only at h1 hV
        subst h1 hV
        dsimp only [unc]
        refine br_intro (fun hb => ⟨?_, hV13⟩) (fun hb => ⟨inI64 (by omega) (by omega), ⟨rfl, i + 1, by omega, by omega, all_step hP (not_f hb)⟩, by omega⟩)
        rw [all_stop hlt (not_t hb)]
    · have hge : i = 12 := by have := of_decide_eq_false hge; omega
      subst hge
      exact ⟨by rw [hP], hV13⟩
end Go.Proofs.YtdlgpolngnkiaaaDoor

/- How the nodes of a tree that may be hang together: plain laws. -/
namespace Go.Proofs.YtdlgpolngnkiaaaDoor
open Go
theorem Reach.trans {t : Tre} {a b c : Nat} (h : Reach t a b) (k : Reach t b c) : Reach t a c := by
  induction k with
  | refl => exact h
  | step _ hx ih => exact .step ih hx
theorem allE_cons (n : Nod) (t : Tre) : allE (n :: t) = n.ents ++ allE t := by simp [allE]
theorem named_one {t : Tre} {x : Int} : ∀ {i : Nat} {e : Ent}, e ∈ (t.getD i default).ents → e.node = x → 1 ≤ namedT t x := by
  intro i e he hx
  refine List.countP_pos_iff.2 ⟨e, ?_, decide_eq_true hx⟩
  unfold allE
  refine List.mem_flatMap.2 ⟨t.getD i default, ?_, he⟩
  by_cases hi : i < t.length
  · exact getD_mem hi
  · rw [List.getD_eq_getElem?_getD, List.getElem?_eq_none (by omega)] at he
    cases he
theorem named_two {x : Int} : ∀ {t : Tre} {i p : Nat} {e e' : Ent}, i < p → e ∈ (t.getD i default).ents → e' ∈ (t.getD p default).ents → e.node = x → e'.node = x → 2 ≤ namedT t x
  | [], i, p, e, e', _, he, _, _, _ => by cases he
  | n :: t, 0, p + 1, e, e', _, he, he', hx, hx' => by
    unfold namedT
    rw [allE_cons, List.countP_append]
    have h1 : 1 ≤ n.ents.countP fun x_1 => decide (x_1.node = x) := List.countP_pos_iff.2 ⟨e, by simpa using he, decide_eq_true hx⟩
    have h2 : 1 ≤ namedT t x := named_one (i := p) (e := e') (by simpa using he') hx'
    unfold namedT at h2
    omega
  | n :: t, i + 1, p + 1, e, e', hip, he, he', hx, hx' => by
    have h := named_two (t := t) (i := i) (p := p) (by omega) (by simpa using he) (by simpa using he') hx hx'
    unfold namedT at h ⊢
    rw [allE_cons, List.countP_append]
    omega
theorem named_same {t : Tre} {x : Int} (h : namedT t x ≤ 1) {i p : Nat} {e e' : Ent} (he : e ∈ (t.getD i default).ents) (he' : e' ∈ (t.getD p default).ents) (hx : e.node = x) (hx' : e'.node = x) : i = p := by
  rcases Nat.lt_trichotomy i p with hl | hl | hl
  · have := named_two hl he he' hx hx'; omega
  · exact hl
  · have := named_two hl he' he hx' hx; omega
/-- What is known of a tree that may be. -/
structure MayF (t : Tre) : Prop where
  len : t.length = 12
  may : ∀ n ∈ t, mayN n = true
  top : kindT t 0 = 2
  dir : ∀ i, i < 12 → kindT t i = 2 → Reach t 0 i ∧ (i = 0 ∨ namedT t i = 1)
  file : ∀ i, i < 12 → kindT t i = 1 → (t.getD i default).links = (namedT t i : Nat)
  none : ∀ i, i < 12 → kindT t i = 0 → namedT t i = 0
theorem mayF {t : Tre} (h : mayT t = true) : MayF t := by
  obtain ⟨h12, hall, hk, hh, _⟩ := mayT_all h
  have hc : ∀ i, i < 12 → (cnt 12 (allE t)).getD i 0 = (namedT t i : Nat) := fun i hi => cnt_get 12 (allE t) hi
  refine ⟨h12, hall, hk, fun i hi hk2 => ?_, fun i hi hk1 => ?_, fun i hi hk0 => ?_⟩
  · have hb := hh i hi
    rw [hc i hi] at hb
    unfold hangB at hb
    rw [if_pos (show (t.getD i default).kind = 2 from hk2)] at hb
    simp only [Bool.and_eq_true, Bool.or_eq_true, decide_eq_true_eq] at hb
    exact ⟨metB_iff.1 hb.1, by omega⟩
  · have hb := hh i hi
    rw [hc i hi] at hb
    unfold hangB at hb
    rw [if_neg (show ¬ (t.getD i default).kind = 2 by unfold kindT at hk1; omega), if_pos (show (t.getD i default).kind = 1 from hk1)] at hb
    exact of_decide_eq_true hb
  · have hb := hh i hi
    rw [hc i hi] at hb
    unfold hangB at hb
    rw [if_neg (show ¬ (t.getD i default).kind = 2 by unfold kindT at hk0; omega), if_neg (show ¬ (t.getD i default).kind = 1 by unfold kindT at hk0; omega)] at hb
    have := of_decide_eq_true hb
    omega
theorem MayF.at {t : Tre} (h : MayF t) {i : Nat} (hi : i < 12) : mayN (t.getD i default) = true := h.may _ (getD_mem (by rw [h.len]; exact hi))
theorem MayF.ent {t : Tre} (h : MayF t) {i : Nat} {e : Ent} (he : e ∈ entsT t i) : i < 12 ∧ kindT t i = 2 ∧ 1 ≤ e.node ∧ e.node < 12 ∧ mayB e.name = true ∧ kindT t e.node.toNat ≠ 0 := by
  have hi : i < 12 := by
    apply Classical.byContradiction
    intro hi
    unfold entsT at he
    rw [List.getD_eq_getElem?_getD, List.getElem?_eq_none (by rw [h.len]; omega)] at he
    cases he
  have hm := h.at hi
  have hn := mayL_node (mayN_ents hm) he
  refine ⟨hi, ?_, hn.1, hn.2.1, hn.2.2, fun hk => ?_⟩
  · rcases kind_of hm with hk | hk | hk
    · exfalso
      unfold mayN at hm
      rw [if_pos hk] at hm
      simp only [Bool.and_eq_true, decide_eq_true_eq] at hm
      have : (t.getD i default).ents = [] := List.eq_nil_of_length_eq_zero hm.2
      unfold entsT at he
      rw [this] at he; cases he
    · exfalso
      unfold mayN at hm
      rw [if_neg (by omega), if_pos hk] at hm
      unfold fileB at hm
      simp only [Bool.and_eq_true, decide_eq_true_eq] at hm
      have : (t.getD i default).ents = [] := List.eq_nil_of_length_eq_zero hm.1.2
      unfold entsT at he
      rw [this] at he; cases he
    · exact hk
  · have h0 := h.none e.node.toNat (by omega) hk
    have h1 := named_one (t := t) (x := ((e.node.toNat : Nat) : Int)) (i := i) he (by omega)
    omega
theorem MayF.reach_lt {t : Tre} (h : MayF t) {a b : Nat} (ha : a < 12) (hr : Reach t a b) : b < 12 := by
  cases hr with
  | refl => exact ha
  | step _ hx => have := h.ent hx; omega
/-- The root is named by nobody. -/
theorem MayF.zero {t : Tre} (h : MayF t) {i : Nat} {e : Ent} (he : e ∈ entsT t i) : e.node.toNat ≠ 0 := by
  have := h.ent he; omega
/-- A file leads nowhere. -/
theorem reach_leaf {t : Tre} {a b : Nat} (h : entsT t a = []) (hr : Reach t a b) : b = a := by
  induction hr with
  | refl => rfl
  | step _ hx ih =>
    subst ih
    unfold entsT at h
    rw [h] at hx; cases hx
theorem reach_first {t : Tre} {a b : Nat} (hr : Reach t a b) : a = b ∨ ∃ e ∈ entsT t a, Reach t e.node.toNat b := by
  induction hr with
  | refl => exact .inl rfl
  | step h hx ih =>
    right
    rcases ih with rfl | ⟨e, he, hr⟩
    · exact ⟨_, hx, .refl⟩
    · exact ⟨e, he, .step hr hx⟩
/-- One comes back nowhere. -/
theorem MayF.nocycle {t : Tre} (h : MayF t) {a : Nat} {e0 : Ent} (he0 : e0 ∈ entsT t a) (hba : Reach t e0.node.toNat a) : False := by
  have ha := (h.ent he0).1
  let C : Nat → Prop := fun x => Reach t a x ∧ Reach t x a
  have pred : ∀ x, C x → ∃ p e, C p ∧ e ∈ entsT t p ∧ e.node.toNat = x := by
    rintro x ⟨h1, h2⟩
    by_cases hx : x = a
    · subst hx
      rcases Nat.decEq e0.node.toNat x with hne | heq
      · cases hba with
        | refl => exact absurd rfl hne
        | step hp hx => exact ⟨_, _, ⟨(Reach.step .refl he0).trans hp, .step .refl hx⟩, hx, rfl⟩
      · exact ⟨x, e0, ⟨.refl, .refl⟩, he0, heq⟩
    · cases h1 with
      | refl => exact absurd rfl hx
      | step hp he => exact ⟨_, _, ⟨hp, (Reach.step .refl he).trans h2⟩, he, rfl⟩
  have dirC : ∀ x, C x → kindT t x = 2 := by
    rintro x ⟨h1, h2⟩
    by_cases hx : x = a
    · subst hx
      exact (h.ent he0).2.1
    · rcases reach_first h2 with e | ⟨e, he, _⟩
      · exact absurd e hx
      · exact (h.ent he).2.1
  have no : ∀ x, Reach t 0 x → ¬ C x := by
    intro x hr
    induction hr with
    | refl =>
      intro hc
      obtain ⟨p, e, _, he, h0⟩ := pred _ hc
      exact h.zero he h0
    | @step i e hi he ih =>
      intro hc
      obtain ⟨p, e', hp, he', hx⟩ := pred _ hc
      have hq := h.ent he
      have hq' := h.ent he'
      have hd := (h.dir e.node.toNat (by omega) (dirC _ hc)).2
      have hn1 : namedT t ((e.node.toNat : Nat) : Int) ≤ 1 := by
        rcases hd with h0 | h1
        · exact absurd h0 (h.zero he)
        · omega
      have := named_same hn1 he he' (by omega) (by omega)
      subst this
      exact ih hp
  have hCa : C a := ⟨.refl, .refl⟩
  exact no a (h.dir a ha (dirC a hCa)).1 hCa
/-- No directory is inside what is in it. -/
theorem MayF.anti {t : Tre} (h : MayF t) {a b : Nat} (hab : Reach t a b) (hba : Reach t b a) : a = b := by
  rcases reach_first hab with e | ⟨e, he, hr⟩
  · exact e
  · exact (h.nocycle he (hr.trans hba)).elim
theorem MayF.met {t : Tre} (h : MayF t) {c : Nat} (hc : c < 12) : metB t 0 c = (decide (0 < namedT t c) || decide (c = 0)) := by
  rw [Bool.eq_iff_iff, metB_iff, Bool.or_eq_true, decide_eq_true_eq, decide_eq_true_eq]
  constructor
  · intro hr
    cases hr with
    | refl => exact .inr rfl
    | step _ hx => have := h.ent hx; exact .inl (named_one hx (by omega))
  · rintro (hn | rfl)
    · obtain ⟨e, he, hd⟩ := List.countP_pos_iff.1 hn
      obtain ⟨n, hn, hen⟩ := List.mem_flatMap.1 he
      obtain ⟨j, hj, rfl⟩ := List.getElem_of_mem hn
      have hx : e ∈ entsT t j := by unfold entsT; rw [getD_at hj]; exact hen
      have hq := h.ent hx
      have := Reach.step (h.dir j hq.1 hq.2.1).1 hx
      rwa [of_decide_eq_true hd, Int.toNat_natCast] at this
    · exact .refl
theorem insideT_iff {t : Tre} (hM : mayT t = true) {a b : Nat} (ha : a < 12) (hb : b < 12) : insideT t a b = (decide (kindT t a = 2) && metB t a b) := by
  unfold insideT
  rw [hM, decide_eq_true (show (0 : Int) ≤ a by omega), decide_eq_true (show (a : Int) < 12 by omega), decide_eq_true (show (0 : Int) ≤ b by omega), decide_eq_true (show (b : Int) < 12 by omega)]
  simp
end Go.Proofs.YtdlgpolngnkiaaaDoor

/- The paths of all names: plain. -/
namespace Go.Proofs.YtdlgpolngnkiaaaDoor
open Go
def say (l : List ByteArray) : List ByteArray := if joinP1 l = ba [] then [] else [joinP1 l]
/-- The paths of all names below a node, at most so deep. -/
def walkG (t : Tre) : Nat → Nat → List ByteArray → List ByteArray
  | 0, _, _ => []
  | f + 1, i, ahead => (entsT t i).flatMap fun x => say (ahead ++ [x.name]) ++ walkG t f x.node.toNat (ahead ++ [x.name])
noncomputable def walkT (t : Tre) : List ByteArray := if mayT t then walkG t 12 0 [] else []
/-- No way down from a node is so long. -/
def Hgt (t : Tre) : Nat → Nat → Prop
  | 0, _ => False
  | f + 1, i => ∀ e ∈ entsT t i, Hgt t f e.node.toNat
noncomputable def below (t : Tre) (i : Nat) : List Nat := (List.range 12).filter fun j => metB t i j
theorem filter_lt {p q : Nat → Bool} : ∀ {l : List Nat} {a : Nat}, (∀ x, p x = true → q x = true) → a ∈ l → q a = true → p a = false → (l.filter p).length < (l.filter q).length
  | x :: l, a, hpq, ha, hq, hp => by
    have hle : (l.filter p).length ≤ (l.filter q).length := by
      rw [← List.countP_eq_length_filter, ← List.countP_eq_length_filter]
      exact List.countP_mono_left fun x _ h => hpq x h
    rcases List.mem_cons.1 ha with rfl | ha
    · rw [List.filter_cons_of_neg (by rw [hp]; decide), List.filter_cons_of_pos hq, List.length_cons]; omega
    · have := filter_lt hpq ha hq hp
      by_cases hx : p x = true
      · rw [List.filter_cons_of_pos hx, List.filter_cons_of_pos (hpq x hx)]; simpa using this
      · rw [List.filter_cons_of_neg hx]
        by_cases hx2 : q x = true
        · rw [List.filter_cons_of_pos hx2, List.length_cons]; omega
        · rw [List.filter_cons_of_neg hx2]; exact this
theorem below_lt {t : Tre} (h : MayF t) {i : Nat} {e : Ent} (he : e ∈ entsT t i) : (below t e.node.toNat).length < (below t i).length := by
  refine filter_lt (a := i) (fun x hx => metB_iff.2 ((Reach.step .refl he).trans (metB_iff.1 hx))) (by rw [List.mem_range]; exact (h.ent he).1) (metB_iff.2 .refl) ?_
  cases hb : metB t e.node.toNat i with
  | false => rfl
  | true => exact (h.nocycle he (metB_iff.1 hb)).elim
theorem hgt_of {t : Tre} (h : MayF t) : ∀ {f i : Nat}, i < 12 → (below t i).length ≤ f → Hgt t f i
  | 0, i, hi, hl => by
    exfalso
    have : i ∈ below t i := List.mem_filter.2 ⟨List.mem_range.2 hi, metB_iff.2 .refl⟩
    have : below t i = [] := List.eq_nil_of_length_eq_zero (by omega)
    simp_all
  | f + 1, i, hi, hl => fun e he => by
    have hq := h.ent he
    have := below_lt h he
    exact hgt_of h (by omega) (by omega)
theorem MayF.hgt {t : Tre} (h : MayF t) : Hgt t 12 0 := hgt_of h (by omega) (by
  have := List.length_filter_le (fun j => metB t 0 j) (List.range 12)
  simpa [below] using this)
def wmax : Nat → Nat
  | 0 => 0
  | f + 1 => 10 * (1 + wmax f)
theorem wmax_le : ∀ f, f ≤ 11 → wmax f ≤ 111111111110 := by decide
theorem say_len (l : List ByteArray) : (say l).length ≤ 1 := by unfold say; split <;> simp
theorem flatMap_le {α β : Type} {g : α → List β} {m : Nat} : ∀ {l : List α}, (∀ x ∈ l, (g x).length ≤ m) → (l.flatMap g).length ≤ l.length * m
  | [], _ => by simp
  | x :: l, h => by
    have h1 := flatMap_le (g := g) (l := l) fun y hy => h y (by simp [hy])
    have h2 := h x (by simp)
    rw [List.flatMap_cons, List.length_append, List.length_cons, Nat.add_mul]; omega
theorem walkG_len {t : Tre} (h : ∀ i, (entsT t i).length ≤ 10) : ∀ (f i : Nat) (ahead : List ByteArray), (walkG t f i ahead).length ≤ wmax f
  | 0, _, _ => by simp [walkG]
  | f + 1, i, ahead => by
    unfold walkG wmax
    have h1 := flatMap_le (g := fun x : Ent => say (ahead ++ [x.name]) ++ walkG t f x.node.toNat (ahead ++ [x.name])) (l := entsT t i) (m := 1 + wmax f) fun x _ => by
      have a := say_len (ahead ++ [x.name])
      have b := walkG_len h f x.node.toNat (ahead ++ [x.name])
      rw [List.length_append]; omega
    have h2 := Nat.mul_le_mul_right (1 + wmax f) (h i)
    omega
theorem MayF.ents_len {t : Tre} (h : MayF t) (i : Nat) : (entsT t i).length ≤ 10 := by
  by_cases hi : i < 12
  · exact mayL_len (mayN_ents (h.at hi))
  · unfold entsT
    rw [List.getD_eq_getElem?_getD, List.getElem?_eq_none (by rw [h.len]; omega)]
    exact Nat.zero_le _
/-- What is told depends on the entries alone. -/
theorem walkG_congr {t u : Tre} (h : ∀ i, entsT t i = entsT u i) : ∀ (f i : Nat) (ahead : List ByteArray), walkG t f i ahead = walkG u f i ahead
  | 0, _, _ => rfl
  | f + 1, i, ahead => by
    unfold walkG
    rw [h i]
    congr 1
    funext x
    rw [walkG_congr h f]
end Go.Proofs.YtdlgpolngnkiaaaDoor

/- Each path that is told is found, and no other: plain. -/
namespace Go.Proofs.YtdlgpolngnkiaaaDoor
open Go
/-! ### names of a directory -/
theorem bytesLess_trans : ∀ (a b c : List UInt8), Op.bytesLess a b = true → Op.bytesLess b c = true → Op.bytesLess a c = true
  | _, [], _, h, _ => by cases ‹List UInt8› <;> simp [Op.bytesLess] at h
  | _, _ :: _, [], _, h => by simp [Op.bytesLess] at h
  | [], _ :: _, _ :: _, _, _ => by simp [Op.bytesLess]
  | x :: a, y :: b, z :: c, h, k => by
    have ih := bytesLess_trans a b c
    simp only [Op.bytesLess, Bool.or_eq_true, decide_eq_true_eq, Bool.and_eq_true, beq_iff_eq] at h k ⊢
    rcases h with h | ⟨rfl, h⟩ <;> rcases k with k | ⟨rfl, k⟩
    · left; exact UInt8.lt_trans h k
    · left; exact h
    · left; exact k
    · right; exact ⟨rfl, ih h k⟩
theorem sLess_trans {a b c : ByteArray} (h : sLess a b = true) (k : sLess b c = true) : sLess a c = true := bytesLess_trans _ _ _ h k
theorem sLess_irr (a : ByteArray) : sLess a a = false := bytesLess_irr _
theorem mayL_less {l : List Ent} (h : mayL l = true) : ∀ (k i : Nat), i + k + 1 < l.length → sLess (l.getD i default).name (l.getD (i + k + 1) default).name = true := by
  have hst : ∀ j, j + 1 < l.length → sLess (l.getD j default).name (l.getD (j + 1) default).name = true := by
    intro j hj
    unfold mayL at h
    simp only [Bool.and_eq_true, List.all_eq_true, List.mem_range] at h
    have := h.1 (j + 1) hj
    unfold okE at this
    simp only [Bool.and_eq_true, Bool.or_eq_true, decide_eq_true_eq] at this
    rcases this.2 with h0 | h0
    · omega
    · simpa using h0
  intro k
  induction k with
  | zero => intro i hi; exact hst i hi
  | succ k ih =>
    intro i hi
    have a := ih i (by omega)
    have b := hst (i + k + 1) (by omega)
    exact sLess_trans a b
theorem mayL_pair {l : List Ent} (h : mayL l = true) : l.Pairwise fun a b => a.name ≠ b.name := by
  rw [List.pairwise_iff_getElem]
  intro i j hi hj hij e
  have := mayL_less h (j - i - 1) i (by omega)
  rw [show i + (j - i - 1) + 1 = j by omega, getD_at hi, getD_at hj, e, sLess_irr] at this
  cases this
theorem atI_mem {l : List Ent} {s : ByteArray} (h : ¬ atI l s < 0) : ∃ e ∈ l, e.name = s ∧ e.node = atI l s := by
  unfold atI at h ⊢
  cases hf : l.find? fun x => decide (x.name = s) with
  | none => rw [hf] at h; exact absurd (show (-1 : Int) < 0 by decide) h
  | some x =>
    have := List.find?_some hf
    exact ⟨x, List.mem_of_find?_eq_some hf, of_decide_eq_true this, rfl⟩
theorem atI_of {l : List Ent} (h : l.Pairwise fun a b => a.name ≠ b.name) {e : Ent} (he : e ∈ l) : atI l e.name = e.node := by
  unfold atI
  induction l with
  | nil => cases he
  | cons x l ih =>
    rw [List.find?_cons]
    rcases List.mem_cons.1 he with rfl | he
    · rw [decide_eq_true rfl]
    · have hne := (List.pairwise_cons.1 h).1 e he
      rw [decide_eq_false hne]
      exact ih (List.pairwise_cons.1 h).2 he
theorem MayF.pair {t : Tre} (h : MayF t) (i : Nat) : (entsT t i).Pairwise fun a b => a.name ≠ b.name := by
  by_cases hi : i < 12
  · exact mayL_pair (mayN_ents (h.at hi))
  · unfold entsT
    rw [List.getD_eq_getElem?_getD, List.getElem?_eq_none (by rw [h.len]; omega)]
    exact List.Pairwise.nil
theorem nil_or_snoc {α : Type} (l : List α) : l = [] ∨ ∃ m s, l = m ++ [s] := by
  rcases List.eq_nil_or_concat l with h | ⟨m, s, h⟩
  · exact .inl h
  · exact .inr ⟨m, s, by rw [h, List.concat_eq_append]⟩
/-! ### ways -/
/-- The names of all names below a node. -/
def nameG (t : Tre) : Nat → Nat → List ByteArray → List (List ByteArray)
  | 0, _, _ => []
  | f + 1, i, ahead => (entsT t i).flatMap fun x => (ahead ++ [x.name]) :: nameG t f x.node.toNat (ahead ++ [x.name])
theorem walkG_names (t : Tre) : ∀ (f i : Nat) (ahead : List ByteArray), walkG t f i ahead = (nameG t f i ahead).flatMap say
  | 0, _, _ => rfl
  | f + 1, i, ahead => by
    unfold walkG nameG
    rw [List.flatMap_assoc]
    congr 1
    funext x
    rw [List.flatMap_cons, walkG_names t f]
theorem goF_snoc (t : Tre) (s : ByteArray) : ∀ (l : List ByteArray) (i q : Nat), goF t i (l ++ [s]) = .ok q ↔ ∃ p, goF t i l = .ok p ∧ goF t p [s] = .ok q
  | [], i, q => by
    constructor
    · intro h; exact ⟨i, rfl, h⟩
    · rintro ⟨p, hp, h⟩; cases hp; exact h
  | x :: l, i, q => by
    rw [List.cons_append, goF_cons, goF_cons]
    split
    · split
      · simp
      · exact goF_snoc t s l _ q
    · simp
theorem goF_one {t : Tre} {p q : Nat} {s : ByteArray} (h : goF t p [s] = .ok q) : kindT t p = 2 ∧ ∃ e ∈ entsT t p, e.name = s ∧ e.node.toNat = q := by
  rw [goF_cons] at h
  split at h
  · rename_i hk
    split at h
    · cases h
    · rename_i h0
      cases h
      obtain ⟨e, he, h1, h2⟩ := atI_mem h0
      exact ⟨hk, e, he, h1, by rw [h2]⟩
  · cases h
theorem goF_ent {t : Tre} (h : MayF t) {p : Nat} {e : Ent} (he : e ∈ entsT t p) : goF t p [e.name] = .ok e.node.toNat := by
  have hq := h.ent he
  have ha := atI_of (h.pair p) he
  rw [goF_cons, if_pos hq.2.1, ha, if_neg (by omega)]; rfl
theorem goF_reach {t : Tre} : ∀ {l : List ByteArray} {i q : Nat}, goF t i l = .ok q → Reach t i q
  | [], i, q, h => by cases h; exact .refl
  | s :: l, i, q, h => by
    rw [goF_cons] at h
    split at h
    · split at h
      · cases h
      · rename_i h0
        obtain ⟨e, he, _, h2⟩ := atI_mem h0
        rw [← h2] at h
        exact (Reach.step .refl he).trans (goF_reach h)
    · cases h
theorem nameG_go {t : Tre} (h : MayF t) : ∀ {f i : Nat} {ahead l : List ByteArray}, l ∈ nameG t f i ahead → ∃ m q, l = ahead ++ m ∧ m ≠ [] ∧ goF t i m = .ok q
  | 0, _, _, _, hl => by cases hl
  | f + 1, i, ahead, l, hl => by
    obtain ⟨x, hx, hl⟩ := List.mem_flatMap.1 hl
    have h1 := goF_ent h hx
    rcases List.mem_cons.1 hl with rfl | hl
    · exact ⟨[x.name], _, rfl, by simp, h1⟩
    · obtain ⟨m, q, rfl, hm, hq⟩ := nameG_go h hl
      refine ⟨x.name :: m, q, by simp, by simp, ?_⟩
      have hk := (h.ent hx).2.1
      have ha := atI_of (h.pair i) hx
      have h9 := h.ent hx
      rw [goF_cons, if_pos hk, ha, if_neg (by omega)]; exact hq
theorem go_nameG {t : Tre} : ∀ {f i : Nat} {ahead m : List ByteArray} {q : Nat}, Hgt t f i → m ≠ [] → goF t i m = .ok q → ahead ++ m ∈ nameG t f i ahead
  | 0, _, _, _, _, hh, _, _ => hh.elim
  | f + 1, i, ahead, [], q, _, hm, _ => absurd rfl hm
  | f + 1, i, ahead, s :: m, q, hh, _, hq => by
    rw [goF_cons] at hq
    split at hq
    · split at hq
      · cases hq
      · rename_i h0
        obtain ⟨e, he, h1, h2⟩ := atI_mem h0
        unfold nameG
        refine List.mem_flatMap.2 ⟨e, he, ?_⟩
        rw [← h2] at hq
        rw [← h1]
        by_cases hm : m = []
        · subst hm; exact List.mem_cons_self
        · refine List.mem_cons_of_mem _ ?_
          have := go_nameG (ahead := ahead ++ [e.name]) (hh e he) hm hq
          simpa using this
    · cases hq
/-- What is told later is no beginning of it. -/
theorem nameG_order {t : Tre} (h : MayF t) : ∀ (f i : Nat) (ahead : List ByteArray), (nameG t f i ahead).Pairwise fun a b => ¬ ∃ m, a = b ++ m
  | 0, _, _ => List.Pairwise.nil
  | f + 1, i, ahead => by
    unfold nameG
    rw [List.pairwise_flatMap]
    have long : ∀ {x : Ent} {a : List ByteArray}, a ∈ (ahead ++ [x.name]) :: nameG t f x.node.toNat (ahead ++ [x.name]) → ∃ m, a = ahead ++ (x.name :: m) := by
      intro x a ha
      rcases List.mem_cons.1 ha with rfl | ha
      · exact ⟨[], by simp⟩
      · obtain ⟨m, q, rfl, _⟩ := nameG_go h ha
        exact ⟨m, by simp⟩
    refine ⟨fun x hx => List.pairwise_cons.2 ⟨fun b hb => ?_, nameG_order h f _ _⟩, ?_⟩
    · rintro ⟨m, hm⟩
      obtain ⟨n, q, rfl, hn, _⟩ := nameG_go h hb
      have := congrArg List.length hm
      simp only [List.length_append] at this
      exact hn (List.eq_nil_of_length_eq_zero (by omega))
    · refine (h.pair i).imp fun {x y} hne a ha b hb => ?_
      rintro ⟨m, hm⟩
      obtain ⟨ma, rfl⟩ := long ha
      obtain ⟨mb, rfl⟩ := long hb
      rw [List.append_assoc, List.append_cancel_left_eq, List.cons_append, List.cons.injEq] at hm
      exact hne hm.1
/-! ### how many -/
theorem countP_two {α : Type} {p : α → Bool} : ∀ {l : List α} {a b : α}, a ∈ l → b ∈ l → a ≠ b → p a = true → p b = true → 2 ≤ l.countP p
  | x :: l, a, b, ha, hb, hne, pa, pb => by
    rw [List.countP_cons]
    by_cases h1 : a = x
    · subst h1
      have hb2 : b ∈ l := by
        rcases List.mem_cons.1 hb with h | h
        · exact absurd h.symm hne
        · exact h
      have : 0 < l.countP p := List.countP_pos_iff.2 ⟨b, hb2, pb⟩
      rw [if_pos pa]; omega
    · have ha2 : a ∈ l := by
        rcases List.mem_cons.1 ha with h | h
        · exact absurd h h1
        · exact h
      by_cases h2 : b = x
      · subst h2
        have : 0 < l.countP p := List.countP_pos_iff.2 ⟨a, ha2, pa⟩
        rw [if_pos pb]; omega
      · have hb2 : b ∈ l := by
          rcases List.mem_cons.1 hb with h | h
          · exact absurd h h2
          · exact h
        have := countP_two ha2 hb2 hne pa pb
        omega
theorem named_ent {t : Tre} {x : Int} (h : namedT t x ≤ 1) {i : Nat} {e e' : Ent} (he : e ∈ entsT t i) (he' : e' ∈ entsT t i) (hx : e.node = x) (hx' : e'.node = x) : e = e' := by
  apply Classical.byContradiction
  intro hne
  have hi : i < t.length := by
    apply Classical.byContradiction
    intro hi
    unfold entsT at he
    rw [List.getD_eq_getElem?_getD, List.getElem?_eq_none (by omega)] at he
    cases he
  have hm : ∀ {y : Ent}, y ∈ entsT t i → y ∈ allE t := fun hy => List.mem_flatMap.2 ⟨t.getD i default, getD_mem hi, hy⟩
  have := countP_two (p := fun y : Ent => decide (y.node = x)) (hm he) (hm he') hne (decide_eq_true hx) (decide_eq_true hx')
  have h2 : (allE t).countP (fun y : Ent => decide (y.node = x)) = namedT t x := rfl
  omega
/-- One way leads to a directory. -/
theorem way_one {t : Tre} (h : MayF t) : ∀ (n : Nat) {l l' : List ByteArray} {d : Nat}, l.length = n → goF t 0 l = .ok d → goF t 0 l' = .ok d → kindT t d = 2 → l = l'
  | n, l, l', d, hn, hl, hl', hk => by
    have z : ∀ {m : List ByteArray} {s : ByteArray}, goF t 0 (m ++ [s]) ≠ .ok 0 := by
      intro m s hz
      obtain ⟨p, _, h1⟩ := (goF_snoc t s m 0 0).1 hz
      obtain ⟨_, e, he, _, h0⟩ := goF_one h1
      exact h.zero he h0
    rcases nil_or_snoc l with rfl | ⟨m, s, rfl⟩
    · cases hl
      rcases nil_or_snoc l' with rfl | ⟨m', s', rfl⟩
      · rfl
      · exact absurd hl' z
    · rcases nil_or_snoc l' with rfl | ⟨m', s', rfl⟩
      · cases hl'; exact absurd hl z
      · obtain ⟨p, hp, h1⟩ := (goF_snoc t s m 0 d).1 hl
        obtain ⟨p', hp', h1'⟩ := (goF_snoc t s' m' 0 d).1 hl'
        obtain ⟨hkp, e, he, hs, hd⟩ := goF_one h1
        obtain ⟨_, e', he', hs', hd'⟩ := goF_one h1'
        have hq := h.ent he
        have hq' := h.ent he'
        have hnm : namedT t (d : Int) ≤ 1 := by
          rcases (h.dir d (by omega) hk).2 with h0 | h1
          · omega
          · omega
        have hpp := named_same hnm he he' (by omega) (by omega)
        subst hpp
        have hee := named_ent hnm he he' (by omega) (by omega)
        subst hee
        have hm : m.length < n := by simp at hn; omega
        have := way_one h m.length (l := m) (l' := m') rfl hp hp' hkp
        rw [this, ← hs, ← hs']
termination_by n => n
theorem nodup_le {α : Type} [DecidableEq α] : ∀ {l m : List α}, l.Nodup → (∀ x ∈ l, x ∈ m) → l.length ≤ m.length
  | [], _, _, _ => Nat.zero_le _
  | x :: l, m, hn, hs => by
    have hx := hs x (by simp)
    have hn' := List.nodup_cons.1 hn
    have ih := nodup_le (l := l) (m := m.erase x) hn'.2 fun y hy => (List.mem_erase_of_ne (fun e => hn'.1 (by rw [← e]; exact hy))).2 (hs y (by simp [hy]))
    have hp := List.length_pos_of_mem hx
    rw [List.length_erase_of_mem hx] at ih
    rw [List.length_cons]; omega
def dirOf (t : Tre) (l : List ByteArray) : Nat × ByteArray := ((match goF t 0 l.dropLast with
  | .ok p => p
  | .error _ => 0), l.getLastD (ba []))
theorem names_le {t : Tre} (h : MayF t) : (nameG t 12 0 []).length ≤ 120 := by
  have hpl : ((List.range 12).flatMap fun d => (entsT t d).map fun e => (d, e.name)).length ≤ 12 * 10 := by
    have := flatMap_le (g := fun d => (entsT t d).map fun e => (d, e.name)) (l := List.range 12) (m := 10) fun d _ => by rw [List.length_map]; exact h.ents_len d
    simpa using this
  have look : ∀ {l : List ByteArray}, l ∈ nameG t 12 0 [] → ∃ m p e, l = m ++ [e.name] ∧ goF t 0 m = .ok p ∧ kindT t p = 2 ∧ e ∈ entsT t p ∧ dirOf t l = (p, e.name) := by
    intro l hl
    obtain ⟨m, q, hlm, hm, hq⟩ := nameG_go h hl
    rw [List.nil_append] at hlm
    subst hlm
    rcases nil_or_snoc l with rfl | ⟨m', s, rfl⟩
    · exact absurd rfl hm
    · obtain ⟨p, hp, h1⟩ := (goF_snoc t s m' 0 q).1 hq
      obtain ⟨hk, e, he, rfl, _⟩ := goF_one h1
      refine ⟨m', p, e, rfl, hp, hk, he, ?_⟩
      unfold dirOf
      simp [hp]
  have hle := nodup_le (l := (nameG t 12 0 []).map (dirOf t)) (m := (List.range 12).flatMap fun d => (entsT t d).map fun e => (d, e.name)) ?_ ?_
  · rw [List.length_map] at hle; omega
  · rw [List.Nodup, List.pairwise_map]
    refine (nameG_order h 12 0 []).imp_of_mem fun {a b} ha hb hne e => hne ⟨[], ?_⟩
    obtain ⟨m, p, x, rfl, hp, hk, _, h1⟩ := look ha
    obtain ⟨m', p', x', rfl, hp', _, _, h1'⟩ := look hb
    rw [h1, h1', Prod.mk.injEq] at e
    obtain ⟨rfl, e2⟩ := e
    rw [way_one h m.length rfl hp hp' hk, e2, List.append_nil]
  · intro x hx
    obtain ⟨l, hl, rfl⟩ := List.mem_map.1 hx
    obtain ⟨m, p, e, _, _, _, he, h1⟩ := look hl
    rw [h1]
    exact List.mem_flatMap.2 ⟨p, List.mem_range.2 (h.ent he).1, List.mem_map.2 ⟨e, he, rfl⟩⟩
/-! ### texts -/
theorem mem_say {l : List ByteArray} {s : ByteArray} : s ∈ say l ↔ joinP1 l = s ∧ s ≠ ba [] := by
  unfold say
  split
  · rename_i h
    constructor
    · intro hs; cases hs
    · rintro ⟨h1, h2⟩; exact absurd (h1.symm.trans h) h2
  · rename_i h
    rw [List.mem_singleton]
    constructor
    · rintro rfl; exact ⟨rfl, h⟩
    · rintro ⟨h1, _⟩; exact h1.symm
theorem joinP1_split {l : List ByteArray} {s : ByteArray} (h : joinP1 l = s) (hs : s ≠ ba []) : splitP s = some l := by
  unfold joinP1 at h
  split at h
  · rename_i h2; rw [← h]; exact h2
  · exact absurd h.symm hs
theorem split_ne {s : ByteArray} {l : List ByteArray} (h : splitP s = some l) : s ≠ ba [] := by
  intro e
  subst e
  have : splitP (ba []) = none := rfl
  rw [this] at h; cases h
theorem split_join1 {s : ByteArray} {l : List ByteArray} (h : splitP s = some l) : joinP1 l = s := joinP_of_split h
theorem join_drop_le : ∀ (l : List ByteArray) (s : ByteArray), (Lib.join (l.map bl) [47]).length ≤ (Lib.join ((l ++ [s]).map bl) [47]).length
  | [], s => by simp [Lib.join_nil]
  | x :: l, s => by
    rw [joinS_snoc (x :: l) s (by simp), List.length_append]; omega
theorem split_drop {s n : ByteArray} {l : List ByteArray} (h : splitP s = some (l ++ [n])) : splitP (joinP1 l) = some l := by
  obtain ⟨h1, h2, h3⟩ := splitP_some h
  have hl : (Lib.join ((l ++ [n]).map bl) [47]).length ≤ 59 := by
    have := congrArg List.length h3
    rw [bl_len, List.length_cons] at this
    omega
  have hd := join_drop_le l n
  have hall : l.all mayB = true := by
    rw [List.all_append, Bool.and_eq_true] at h2
    exact h2.1
  have := splitP_join hall (by omega)
  unfold joinP1
  rw [if_pos this]; exact this
theorem last_of {s n : ByteArray} {l : List ByteArray} (h : splitP s = some (l ++ [n])) : lastP s = (joinP1 l, n, 0) := by
  unfold lastP
  rw [h]
  simp
theorem find_of {t : Tre} (hM : mayT t = true) {s : ByteArray} {l : List ByteArray} (h : splitP s = some l) : findT t s = goF t 0 l := by
  unfold findT
  rw [if_pos hM, h]
/-- A text that goes on behind another one with a slash. -/
theorem split_pre {s x : ByteArray} {l m : List ByteArray} {r : List UInt8} (hs : splitP s = some l) (hx : splitP x = some m) (hl : l ≠ []) (h : bl x = bl s ++ 47 :: r) : ∃ k, m = l ++ k := by
  obtain ⟨_, h2, h3⟩ := splitP_some hs
  have hsp : splitP x = some ((splitS (Lib.join (l.map bl) [47] ++ 47 :: r)).map ba) ∨ splitP x = none := by
    unfold splitP
    rw [h, h3]
    simp only [List.cons_append]
    split
    · split
      · rename_i h0
        exact absurd h0 (by simp)
      · split
        · exact .inl rfl
        · exact .inr rfl
    · exact .inr rfl
  rcases hsp with hsp | hsp
  · rw [hx] at hsp
    cases hsp
    have hno : ∀ y ∈ l.map bl, 47 ∉ y := fun y hy => by
      obtain ⟨z, hz, rfl⟩ := List.mem_map.1 hy
      exact mayB_no (List.all_eq_true.1 h2 z hz)
    rw [splitS_app, split_join _ (by simpa using hl) hno, List.map_append, map_ba_bl]
    exact ⟨_, rfl⟩
  · rw [hx] at hsp; cases hsp
/-! ### what is told -/
/-- A path that is told. -/
structure Told (t : Tre) (s : ByteArray) (d q : Nat) (n : ByteArray) : Prop where
  find : findT t s = .ok q
  parent : parentT t s = .ok (d, n)
  d12 : d < 12
  q12 : q < 12
  at_ : atI (entsT t d) n = q
  inside : insideT t (d : Int) (q : Int) = true
theorem walkT_eq {t : Tre} (hM : mayT t = true) : walkT t = (nameG t 12 0 []).flatMap say := by
  unfold walkT
  rw [if_pos hM, walkG_names]
theorem walkT_mem {t : Tre} (hM : mayT t = true) {s : ByteArray} : s ∈ walkT t ↔ ∃ l q, splitP s = some l ∧ l ≠ [] ∧ goF t 0 l = .ok q := by
  have hF := mayF hM
  rw [walkT_eq hM, List.mem_flatMap]
  constructor
  · rintro ⟨l, hl, hs⟩
    obtain ⟨h1, h2⟩ := mem_say.1 hs
    obtain ⟨m, q, hlm, hm, hq⟩ := nameG_go hF hl
    rw [List.nil_append] at hlm
    subst hlm
    exact ⟨l, q, joinP1_split h1 h2, hm, hq⟩
  · rintro ⟨l, q, hs, hm, hq⟩
    have := go_nameG (ahead := []) hF.hgt hm hq
    exact ⟨l, by simpa using this, mem_say.2 ⟨split_join1 hs, split_ne hs⟩⟩
theorem told_of {t : Tre} (hM : mayT t = true) {s : ByteArray} (hs : s ∈ walkT t) : ∃ d q n, Told t s d q n := by
  have hF := mayF hM
  obtain ⟨l, q, hsp, hm, hq⟩ := (walkT_mem hM).1 hs
  rcases nil_or_snoc l with rfl | ⟨m, n, rfl⟩
  · exact absurd rfl hm
  obtain ⟨p, hp, h1⟩ := (goF_snoc t n m 0 q).1 hq
  obtain ⟨hk, e, he, rfl, rfl⟩ := goF_one h1
  have hx := hF.ent he
  refine ⟨p, e.node.toNat, e.name, by rw [find_of hM hsp, hq], ?_, hx.1, by omega, by rw [atI_of (hF.pair p) he]; omega, ?_⟩
  · unfold parentT
    rw [if_pos hM, last_of hsp, if_pos rfl, find_of hM (split_drop hsp), hp]
    simp only [if_pos hk]
  · rw [insideT_iff hM hx.1 (by omega), decide_eq_true hk, metB_iff.2 (.step .refl he)]; rfl
theorem walkT_len {t : Tre} (hM : mayT t = true) : (walkT t).length ≤ 120 := by
  have := names_le (mayF hM)
  rw [walkT_eq hM]
  have h2 := flatMap_le (g := say) (l := nameG t 12 0 []) (m := 1) fun l _ => say_len l
  omega
/-- No path is told twice; none behind one that goes on from it. -/
theorem walkT_order {t : Tre} (hM : mayT t = true) : (walkT t).Pairwise fun x s => x ≠ s ∧ ∀ r, bl x ≠ bl s ++ 47 :: r := by
  have hF := mayF hM
  rw [walkT_eq hM, List.pairwise_flatMap]
  refine ⟨fun l _ => ?_, (nameG_order hF 12 0 []).imp_of_mem fun {a b} ha hb hne x hx s hs => ?_⟩
  · unfold say
    split
    · exact List.Pairwise.nil
    · exact List.pairwise_singleton _ _
  · obtain ⟨h1, h2⟩ := mem_say.1 hx
    obtain ⟨k1, k2⟩ := mem_say.1 hs
    have hx' := joinP1_split h1 h2
    have hs' := joinP1_split k1 k2
    have hbne : b ≠ [] := by
      obtain ⟨m, q, hlm, hm, _⟩ := nameG_go hF hb
      rw [List.nil_append] at hlm
      rw [hlm]; exact hm
    refine ⟨fun e => hne ⟨[], ?_⟩, fun r hr => hne (split_pre hs' hx' hbne hr)⟩
    rw [e, hs'] at hx'
    cases hx'; simp
theorem find_iff {t : Tre} (hM : mayT t = true) (path : ByteArray) : (∃ q, findT t path = .ok q) ↔ path ∈ walkT t ∨ path = ba [47] := by
  rw [walkT_mem hM]
  constructor
  · rintro ⟨q, hq⟩
    unfold findT at hq
    rw [if_pos hM] at hq
    cases hsp : splitP path with
    | none => rw [hsp] at hq; cases hq
    | some l =>
      rw [hsp] at hq
      by_cases hl : l = []
      · right
        subst hl
        have := (splitP_some hsp).2.2
        exact bl_inj (by rw [this]; rfl)
      · left; exact ⟨l, q, rfl, hl, hq⟩
  · rintro (⟨l, q, hsp, _, hq⟩ | rfl)
    · exact ⟨q, by rw [find_of hM hsp, hq]⟩
    · exact ⟨0, by rw [find_of hM split_top]; rfl⟩
end Go.Proofs.YtdlgpolngnkiaaaDoor

/- Elements of rows of one's own that are set; rows that grow by an element. -/
namespace Go.Proofs.YtdlgpolngnkiaaaDoor
open Go
theorem repL.set {α : Type} [Rep α] {W : View} {d : α} {ds : List Value} (hd : Rep.rep W ds d) : ∀ {cs : List Value} {l : List α} {i : Nat}, repL W cs l → i < l.length → repL W (putL cs (i * Rep.sz α) ds) (l.set i d)
  | _, [], i, _, hi => absurd hi (by simp)
  | _, x :: l, 0, ⟨vs, us, e, h1, h2⟩, _ => by
    have hv := Rep.len h1; have hdl := Rep.len hd
    refine ⟨ds, us, ?_, hd, h2⟩
    rw [Nat.zero_mul, putL_eq _ _ _ (by rw [e, List.length_append]; omega), e, List.take_zero, List.nil_append, Nat.zero_add, List.drop_append_of_le_length (by omega), List.drop_of_length_le (by omega), List.nil_append]
  | _, x :: l, i + 1, ⟨vs, us, e, h1, h2⟩, hi => by
    have hv := Rep.len h1; have hdl := Rep.len hd; have hul := h2.len
    have hi' : i < l.length := by simpa using hi
    have hle := Nat.mul_le_mul_right (Rep.sz α) (show i + 1 ≤ l.length from hi')
    rw [Nat.add_mul] at hle
    refine ⟨vs, putL us (i * Rep.sz α) ds, ?_, h1, repL.set hd h2 hi'⟩
    rw [putL_eq _ _ _ (by rw [e, List.length_append, Nat.add_mul]; omega), putL_eq _ _ _ (by omega), e, Nat.add_mul]
    rw [show i * Rep.sz α + 1 * Rep.sz α = vs.length + i * Rep.sz α by omega, List.take_append, List.drop_append]
    rw [List.take_of_length_le (show vs.length ≤ vs.length + i * Rep.sz α by omega), List.drop_of_length_le (show vs.length ≤ vs.length + i * Rep.sz α + ds.length by omega)]
    rw [show vs.length + i * Rep.sz α - vs.length = i * Rep.sz α by omega, show vs.length + i * Rep.sz α + ds.length - vs.length = i * Rep.sz α + ds.length by omega]
    simp [List.append_assoc]
theorem putL_take : ∀ (vs cs : List Value) (off m : Nat), (putL cs off vs).take m = putL (cs.take m) off vs
  | [], _, _, _ => rfl
  | v :: vs, cs, off, m => by rw [putL, putL, putL_take vs, List.take_set]
/-- Cells of a row of one's own may be set; all else is as it was. -/
theorem Buf.set {V : View} {x : Sl} {e : TypeId} {sz : Nat} {cs vs : List Value} (h : Buf V x e sz cs) {off : Nat} (hk : off + vs.length ≤ x.n * sz) (hv : 0 < vs.length) {ad : Addr} (ha : x.a = some ad) :
    canSet V (ad.add off) vs.length ∧ Buf (V.sets (ad.add off) vs) x e sz (putL cs off vs) ∧ (V.minus x).Le ((V.sets (ad.add off) vs).minus x) := by
  rcases h.own with ⟨h1, _⟩ | ⟨r, all, h1, h2, h3, h4⟩
  · rw [h1] at ha; cases ha
  · rw [h1] at ha; cases ha
    have hle := Nat.mul_le_mul_right sz h.le
    have e0 : (⟨r, 0, none⟩ : Addr).add off = ⟨r, off, none⟩ := by rw [addr0_add]; simp
    have hlen := h.len
    rw [e0, sets_see h2]
    refine ⟨canSet_of h2 (by omega), ⟨?_, h.le, h.lim, .inr ⟨r, _, h1, View.see_put_same _ _ _, ?_, ?_⟩⟩, ?_⟩
    · rw [putL_eq _ _ _ (by omega)]; simp; omega
    · rw [putL_eq _ _ _ (by omega)]; simp; omega
    · rw [putL_take, h4]
    · unfold View.minus; rw [h1]; exact hide_le_put_hide r _
/-- Element i of a row of one's own, set. -/
theorem Buf.setE {α : Type} [Rep α] {V : View} {x : Sl} {e : TypeId} {cs vs : List Value} {l : List α} {d : α} (h : Buf V x e (Rep.sz α) cs) (hr : repL (V.minus x) cs l) (hd : Rep.rep (V.minus x) vs d) {i : Nat} (hi : i < l.length) :
    ∃ ad, x.a = some ad ∧ canSet V (ad.add (i * Rep.sz α)) vs.length ∧ Buf (V.sets (ad.add (i * Rep.sz α)) vs) x e (Rep.sz α) (putL cs (i * Rep.sz α) vs) ∧ repL ((V.sets (ad.add (i * Rep.sz α)) vs).minus x) (putL cs (i * Rep.sz α) vs) (l.set i d) ∧ (V.minus x).Le ((V.sets (ad.add (i * Rep.sz α)) vs).minus x) := by
  have hn : x.n = l.length := Nat.eq_of_mul_eq_mul_right (Rep.pos (α := α)) (h.len.symm.trans hr.len)
  have hv := Rep.len hd
  have hle := Nat.mul_le_mul_right (Rep.sz α) (show i + 1 ≤ x.n by omega)
  rw [Nat.add_mul] at hle
  have hp := Rep.pos (α := α)
  rcases h.own with ⟨h1, h2⟩ | ⟨r, all, h1, _⟩
  · have := h.le; omega
  · obtain ⟨a, b, c⟩ := h.set (off := i * Rep.sz α) (vs := vs) (by omega) (by omega) h1
    exact ⟨_, h1, a, b, (hr.mono c).set (Rep.mono c hd) hi, c⟩
theorem putL_mid {cs vs : List Value} {off j : Nat} {v : Value} (h : ∀ j v, vs[j]? = some v → cs[off + j]? = some v) (hj : j < vs.length) (hl : off + vs.length ≤ cs.length) : putL cs off (vs.set j v) = putL cs (off + j) [v] := by
  rw [putL_eq _ _ _ (by simpa using hl)]
  show _ = cs.set (off + j) v
  apply List.ext_getElem?
  intro k
  rw [List.length_set]
  by_cases h1 : k < off
  · rw [List.append_assoc, List.getElem?_append_left (by simp; omega), List.getElem?_take, if_pos h1, List.getElem?_set_ne (by omega)]
  · by_cases h2 : k < off + vs.length
    · rw [List.append_assoc, List.getElem?_append_right (by simp; omega), List.getElem?_append_left (by simp; omega), List.length_take, Nat.min_eq_left (by omega)]
      by_cases h3 : k = off + j
      · subst h3
        rw [show off + j - off = j by omega, List.getElem?_set_self hj, List.getElem?_set_self (by omega)]
      · rw [List.getElem?_set_ne (by omega), List.getElem?_set_ne (by omega)]
        have h4 : k - off < vs.length := by omega
        have := h (k - off) _ (List.getElem?_eq_getElem h4)
        rw [show off + (k - off) = k by omega] at this
        rw [this, List.getElem?_eq_getElem h4]
    · rw [List.getElem?_append_right (by simp; omega), List.getElem?_drop, List.getElem?_set_ne (by omega)]
      congr 1
      simp; omega
/-- A cell of element i of a row of one's own, set. -/
theorem Buf.setC {α : Type} [Rep α] {V : View} {x : Sl} {e : TypeId} {cs : List Value} {l : List α} (h : Buf V x e (Rep.sz α) cs) (hr : repL (V.minus x) cs l) {i : Nat} (hi : i < l.length) :
    ∃ ad vs, x.a = some ad ∧ cellsAt V (ad.add (i * Rep.sz α)) vs ∧ Rep.rep (V.minus x) vs l[i] ∧ ∀ j v d, j < Rep.sz α → Rep.rep (V.minus x) (vs.set j v) d →
      canSet V ((ad.add (i * Rep.sz α)).add j) 1 ∧ Buf (V.sets ((ad.add (i * Rep.sz α)).add j) [v]) x e (Rep.sz α) (putL cs (i * Rep.sz α + j) [v]) ∧ repL ((V.sets ((ad.add (i * Rep.sz α)).add j) [v]).minus x) (putL cs (i * Rep.sz α + j) [v]) (l.set i d) ∧ (V.minus x).Le ((V.sets ((ad.add (i * Rep.sz α)).add j) [v]).minus x) := by
  have hn : x.n = l.length := Nat.eq_of_mul_eq_mul_right (Rep.pos (α := α)) (h.len.symm.trans hr.len)
  obtain ⟨vs, hv, hg⟩ := hr.get i hi
  have hvl := Rep.len hv
  have hle := Nat.mul_le_mul_right (Rep.sz α) (show i + 1 ≤ x.n by omega)
  rw [Nat.add_mul] at hle
  have hcl := h.len
  rcases h.own with ⟨h1, h2⟩ | ⟨r, all, h1, h2, h3, h4⟩
  · have := h.le; omega
  · refine ⟨_, vs, h1, ?_, hv, fun j v d hj hd => ?_⟩
    · rw [addr0_add]
      refine cellsAt_of_see h2 fun j v hj => ?_
      have := hg j v hj
      rw [← h4, List.getElem?_take] at this
      split at this
      · simpa using this
      · cases this
    · rw [Addr.add_add]
      obtain ⟨a, b, c⟩ := h.set (off := i * Rep.sz α + j) (vs := [v]) (by simp; omega) (by simp) h1
      refine ⟨a, b, ?_, c⟩
      rw [← putL_mid hg (by omega) (by omega)]
      exact (hr.mono c).set (Rep.mono c hd) hi
/-- An element in a new block, appended to a row of one's own. -/
theorem app0 {α : Type} [Rep α] {V V0 : View} {r : Nat} {x : Sl} {e : TypeId} {bytes : Nat} {zero : List Value} {cs vs : List Value} {l : List α} {d : α} {C : Sl → View → Prop} {ob : Obj} {te : TypeId}
    (hz : zero.length = Rep.sz α) (hb : Buf V x e (Rep.sz α) cs) (hr : repL (V.minus x) cs l) (hd : Rep.rep (V.minus x) vs d) (hle : V0.Le (V.minus x)) (hnew : V.size ≤ r) (hob : ob = .cells ⟨vs⟩ te (0, 0))
    (hm : (x.n + 1) * bytes ≤ 140737488355328) (hm2 : x.n + 1 ≤ 140737488355328)
    (hC : ∀ s V' cs', Buf V' s e (Rep.sz α) cs' → repL (V'.minus s) cs' (l ++ [d]) → V0.Le (V'.minus s) → C s V') :
    apV (V.put r ob) e (Rep.sz α) bytes zero x (.slice (some ⟨r, 0, none⟩) 1 1) C := by
  subst hob
  have hfr : V.see r = none := View.see_none_of_ge hnew
  have hvl : vs.length = Rep.sz α := Rep.len hd
  refine apV_buf hz (hb.put hfr) (src := vs) (m := 1) ⟨rfl, rowAt_new (View.see_put_same _ _ _) (by rw [Nat.one_mul]; exact hvl)⟩ (by rw [Nat.one_mul]; exact hvl) (Rep.one hd) hm hm2 fun s V' hb' _ hle' => ?_
  have h1 : (V.minus x).Le (V'.minus s) := (put_minus_le hfr).trans hle'
  exact hC s V' _ hb' ((hr.mono h1).snoc (Rep.mono h1 hd)) (hle.trans h1)
/-- An element appended to a row of one's own that stands beside another one. -/
theorem app0b {α : Type} [Rep α] {V V0 : View} {x y : Sl} {e e' : TypeId} {bytes sz' : Nat} {zero : List Value} {cs vs ds : List Value} {l : List α} {d : α} {C : Sl → View → Prop} {r : Nat}
    (hz : zero.length = Rep.sz α) (hb : Buf V x e (Rep.sz α) cs) (hy : Buf (V.minus x) y e' sz' ds) (hr : repL V0 cs l) (hd : Rep.rep V0 vs d) (hle : V0.Le ((V.minus x).minus y)) (hrow : rowAt V (some ⟨r, 0, none⟩) (1 * Rep.sz α) vs)
    (hm : (l.length + 1) * bytes ≤ 140737488355328) (hm2 : l.length + 1 ≤ 140737488355328)
    (hC : ∀ s V', Buf V' s e (Rep.sz α) (cs ++ vs) → Buf (V'.minus s) y e' sz' ds → repL V0 (cs ++ vs) (l ++ [d]) → V0.Le ((V'.minus s).minus y) → C s V') :
    apV V e (Rep.sz α) bytes zero x (.slice (some ⟨r, 0, none⟩) 1 1) C := by
  have hvl : vs.length = Rep.sz α := Rep.len hd
  have hn : x.n = l.length := Nat.eq_of_mul_eq_mul_right (Rep.pos (α := α)) (hb.len.symm.trans hr.len)
  refine apV_buf hz hb (src := vs) (m := 1) ⟨rfl, hrow⟩ (by rw [Nat.one_mul]; exact hvl) (Rep.one hd) (by rw [hn]; exact hm) (by rw [hn]; exact hm2) fun s V' hb' _ hle' => ?_
  exact hC s V' hb' (hy.mono hle') (hr.snoc hd) (hle.trans (minus_mono hle' y))
/-- A row of data copied behind a row of one's own. -/
theorem appRow {α : Type} [Rep α] {V V0 : View} {x y : Sl} {e : TypeId} {bytes : Nat} {zero : List Value} {cs : List Value} {l m : List α} {C : Sl → View → Prop}
    (hz : zero.length = Rep.sz α) (hb : Buf V x e (Rep.sz α) cs) (hr : repL (V.minus x) cs l) (hy : SlR (V.minus x) y m) (hle : V0.Le (V.minus x))
    (hm : (l.length + m.length) * bytes ≤ 140737488355328) (hm2 : l.length + m.length ≤ 140737488355328)
    (hC : ∀ s V' cs', Buf V' s e (Rep.sz α) cs' → repL (V'.minus s) cs' (l ++ m) → V0.Le (V'.minus s) → C s V') :
    apV V e (Rep.sz α) bytes zero x (.slice y.a y.n y.c) C := by
  obtain ⟨cy, hrow, hcy⟩ := hy.row
  have hyn := hy.n
  have hn : x.n = l.length := Nat.eq_of_mul_eq_mul_right (Rep.pos (α := α)) (hb.len.symm.trans hr.len)
  have hrow' : rowAt V y.a (y.n * Rep.sz α) cy := by
    cases ha : y.a with
    | none => rw [ha] at hrow; exact hrow
    | some a => rw [ha] at hrow; exact ⟨hrow.1, cellsAt_mono (View.minus_le _ _) hrow.2⟩
  refine apV_buf hz hb (src := cy) (m := y.n) ⟨rfl, hrow'⟩ (by rw [hcy.len, hyn]) hcy.one (by rw [hn, hyn]; exact hm) (by rw [hn, hyn]; exact hm2) fun s V' hb' _ hle' => ?_
  exact hC s V' _ hb' ((hr.mono hle').append (hcy.mono hle')) (hle.trans hle')
end Go.Proofs.YtdlgpolngnkiaaaDoor

/- Bits of numbers: plain lemmas. -/
namespace Go.Proofs.YtdlgpolngnkiaaaDoor
open Go
theorem wrapI {n : Int} (h0 : -9223372036854775808 ≤ n) (h1 : n ≤ 9223372036854775807) : IntKind.wrap .i64 n = n := by
  unfold IntKind.wrap
  simp [IntKind.signed, IntKind.bits]
  omega
theorem ofInt_nat (w n : Nat) : BitVec.ofInt w (n : Int) = BitVec.ofNat w n := by
  simp
theorem and127 {n : Nat} (h : n ≤ 9223372036854775807) : bitsI .and .i64 (n : Int) 127 = ((n % 128 : Nat) : Int) := by
  have e : bitsI .and .i64 (n : Int) 127 = IntKind.wrap .i64 ((BitVec.ofInt 64 (n : Int) &&& BitVec.ofInt 64 ((127 : Nat) : Int)).toNat) := rfl
  rw [e, ofInt_nat, ofInt_nat, BitVec.toNat_and, BitVec.toNat_ofNat, BitVec.toNat_ofNat]
  have h1 : n % 2 ^ 64 = n := Nat.mod_eq_of_lt (by omega)
  have h2 : (127 : Nat) % 2 ^ 64 = 2 ^ 7 - 1 := by decide
  rw [h1, h2, Nat.and_two_pow_sub_one_eq_mod]
  exact wrapI (by omega) (by omega)
theorem or_low {m c : Nat} (hm : m ≤ 35184372088832) (hc : c < 128) : bitsI .or .i64 ((m : Int) * 128) (c : Int) = ((m * 128 + c : Nat) : Int) := by
  have e : bitsI .or .i64 ((m : Int) * 128) (c : Int) = IntKind.wrap .i64 ((BitVec.ofInt 64 ((m * 128 : Nat) : Int) ||| BitVec.ofInt 64 (c : Int)).toNat) := rfl
  rw [e, ofInt_nat, ofInt_nat, BitVec.toNat_or, BitVec.toNat_ofNat, BitVec.toNat_ofNat]
  have h1 : (m * 128) % 2 ^ 64 = m <<< 7 := by rw [Nat.shiftLeft_eq]; exact Nat.mod_eq_of_lt (by omega)
  have h2 : c % 2 ^ 64 = c := Nat.mod_eq_of_lt (by omega)
  rw [h1, h2, ← Nat.shiftLeft_add_eq_or_of_lt (i := 7) (by omega), Nat.shiftLeft_eq]
  exact wrapI (by omega) (by omega)
theorem or128 {c : Nat} (hc : c < 128) : bitsI .or .u8 (c : Int) 128 = ((c + 128 : Nat) : Int) := by
  have : ∀ c, c < 128 → bitsI .or .u8 ((c : Nat) : Int) 128 = ((c + 128 : Nat) : Int) := by decide +kernel
  exact this c hc
end Go.Proofs.YtdlgpolngnkiaaaDoor

/- Contracts of the reference's numbers and its reader. -/
namespace Go.Proofs.YtdlgpolngnkiaaaDoor
open Go
/-- What the reference's 'number' answers. -/
def num3 (most : Nat) (b : List UInt8) (n k : Int) (ok : Bool) : Prop := match numP most b with
  | none => ok = false
  | some (m, r) => ok = true ∧ n = m ∧ k = (b.length - r.length : Nat)
end Go.Proofs.YtdlgpolngnkiaaaDoor

/- Contracts of the reference's numbers and texts that are laid behind bytes. -/
namespace Go.Proofs.YtdlgpolngnkiaaaDoor
open Go
/-- Two rows of one's own apart from one another. -/
theorem Buf.swap {V : View} {x y : Sl} {e e' : TypeId} {sz sz' : Nat} {cs ds : List Value} (h : Buf (V.minus y) x e sz cs) (k : Buf V y e' sz' ds) : Buf (V.minus x) y e' sz' ds := by
  refine ⟨k.len, k.le, k.lim, ?_⟩
  rcases k.own with k1 | ⟨r, all, k1, k2, k3⟩
  · exact .inl k1
  · refine .inr ⟨r, all, k1, ?_, k3⟩
    rcases h.own with ⟨h1, _⟩ | ⟨q, all', h1, h2, _⟩
    · unfold View.minus; rw [h1]; exact k2
    · unfold View.minus at h2 ⊢
      rw [k1] at h2
      rw [h1]
      simp only [hide_see] at h2 ⊢
      split at h2
      · cases h2
      · rename_i hne; rw [if_neg (fun e => hne e.symm)]; exact k2
theorem minus_minus_le (V : View) (x y : Sl) : ((V.minus x).minus y).Le ((V.minus y).minus x) := by
  refine ⟨by unfold View.minus; split <;> split <;> exact Nat.le_refl _, fun i o ho => ?_, by unfold View.minus; split <;> split <;> rfl⟩
  unfold View.minus at *
  cases hx : x.a <;> cases hy : y.a <;> simp only [hx, hy, hide_see] at ho ⊢
  · exact ho
  · exact ho
  · exact ho
  · split at ho
    · cases ho
    · rename_i h1
      split at ho
      · cases ho
      · rename_i h2
        rw [if_neg h2, if_neg h1]; exact ho
/-- Digits, the least first, without marks. -/
def dgL : Nat → Nat → List UInt8
  | 0, _ => []
  | f + 1, n => if n = 0 then [] else UInt8.ofNat (n % 128) :: dgL f (n / 128)
def markD (b : UInt8) : UInt8 := UInt8.ofNat (b.toNat + 128)
theorem dgL_mark : ∀ (f n : Nat), (dgL f n).map markD = loL f n
  | 0, _ => rfl
  | f + 1, n => by
    unfold dgL loL
    split
    · rfl
    · rw [List.map_cons, dgL_mark f]
      unfold markD
      rw [toNat_ofNat_lt (by omega)]
theorem dgL_lt : ∀ (f n : Nat), ∀ b ∈ dgL f n, b.toNat < 128
  | 0, _, b, h => by simp [dgL] at h
  | f + 1, n, b, h => by
    unfold dgL at h
    split at h
    · simp at h
    · rcases List.mem_cons.1 h with rfl | h
      · rw [toNat_ofNat_lt (by omega)]; omega
      · exact dgL_lt f _ b h
theorem dgL_len : ∀ (f n : Nat), (dgL f n).length ≤ f
  | 0, _ => by simp [dgL]
  | f + 1, n => by
    unfold dgL
    split
    · simp
    · have := dgL_len f (n / 128); simp; omega
theorem numL_dg (n : Nat) : numL n = (UInt8.ofNat (n % 128) :: (dgL 6 (n / 128)).map markD).reverse := by rw [dgL_mark, numL_rev]
/-- What stands at a place, counted from the end. -/
theorem numL_at {n : Nat} {i : Nat} (h : i < (UInt8.ofNat (n % 128) :: dgL 6 (n / 128)).length) :
    (numL n)[(UInt8.ofNat (n % 128) :: dgL 6 (n / 128)).length - 1 - i]? = some (if i = 0 then (UInt8.ofNat (n % 128) :: dgL 6 (n / 128))[i] else markD (UInt8.ofNat (n % 128) :: dgL 6 (n / 128))[i]) := by
  rw [numL_dg]
  simp only [List.length_cons] at h ⊢
  rw [List.getElem?_reverse (by simp; omega)]
  simp only [List.length_cons, List.length_map]
  rw [show (dgL 6 (n / 128)).length + 1 - 1 - ((dgL 6 (n / 128)).length + 1 - 1 - i) = i by omega]
  cases i with
  | zero => simp
  | succ i => simp [List.getElem?_eq_getElem (show i < (dgL 6 (n / 128)).length by omega)]
theorem clamp3_eq (n : Int) : (if (if (1099511627776 : Int) < n then (1099511627776 : Int) else n) > (0 : Int) then if (1099511627776 : Int) < n then (1099511627776 : Int) else n else (0 : Int)) = (clampN n : Int) := by
  unfold clampN
  split <;> split <;> omega
theorem row1 {V : View} {r : Nat} {v : Int} {c : UInt8} (hv : v = (c.toNat : Int)) (h : V.see r = some (.cells ⟨putL [.int .u8 0] 0 [.int .u8 v]⟩ 5 (0, 0))) : rowAt V (some ⟨r, 0, none⟩) (1 * 1) (u8s [c]) := by
  subst hv
  exact rowAt_new h rfl
end Go.Proofs.YtdlgpolngnkiaaaDoor

/- Contracts of Walk. -/
namespace Go.Proofs.YtdlgpolngnkiaaaDoor
open Go
structure strL (cs : List Value) (l : List ByteArray) : Prop where
  rep : ∀ {W : View}, repL W cs l
theorem repL.strs {W : View} : ∀ {cs : List Value} {l : List ByteArray}, repL W cs l → strL cs l
  | _, [], h => ⟨h⟩
  | _, _ :: _, ⟨vs, us, e, h1, h2⟩ => ⟨⟨vs, us, e, h1, (repL.strs h2).rep⟩⟩
theorem join_len : ∀ {l : List ByteArray}, (∀ s ∈ l, s.size ≤ 8) → (Lib.join (l.map bl) [47]).length ≤ 9 * l.length
  | [], _ => by simp [Lib.join_nil]
  | [x], h => by
    have := h x (by simp)
    simp only [List.map_cons, List.map_nil, Lib.join_cons, List.length_append, bl_len, List.length_cons, List.length_nil]
    simp [Lib.joinTail]
    omega
  | x :: y :: l, h => by
    have h1 := join_len (l := y :: l) fun s hs => h s (by simp at hs ⊢; exact .inr hs)
    have h2 := h x (by simp)
    rw [List.map_cons, List.map_cons, join_cons2, List.length_append, List.length_cons, bl_len, ← List.map_cons]
    simp only [List.length_cons] at h1 ⊢
    omega
theorem joinP1_size (l : List ByteArray) : (joinP1 l).size ≤ 60 := by
  unfold joinP1
  split
  · rename_i h; exact (splitP_some h).1
  · simp [ba_size]
theorem MayF.name8 {t : Tre} (h : MayF t) {i : Nat} {e : Ent} (he : e ∈ entsT t i) : e.name.size ≤ 8 := (mayB_size (h.ent he).2.2.2.2.1).2
theorem repL_say {W : View} (l : List ByteArray) : joinP1 l ≠ ba [] → Rep.rep W [.string (joinP1 l)] (joinP1 l) := fun _ => ⟨rfl, by have := joinP1_size l; omega⟩
end Go.Proofs.YtdlgpolngnkiaaaDoor

/- What is written is read as it was. No program in this text. -/
namespace Go.Proofs.YtdlgpolngnkiaaaDoor
open Go
theorem rdN_enc {n : Int} {most : Nat} {r : List UInt8} (h0 : 0 ≤ n) (h1 : n ≤ most) (hm : most ≤ 1099511627776) : rdN (some (numI n ++ r)) most = (n, some r) := by
  have hc : clampN n = n.toNat := by unfold clampN; omega
  unfold rdN numI
  simp only [hc]
  rw [numP_numL (n := n.toNat) (most := most) (by omega) (by omega) r]
  simp only
  rw [Int.toNat_of_nonneg h0]
theorem rdT_enc {b : List UInt8} {most : Nat} {r : List UInt8} (h1 : b.length ≤ most) (hm : most ≤ 1099511627776) : rdT (some (textL b ++ r)) most = (b, some r) := by
  have hp : textP most (textL b ++ r) = some (b, r) := by
    unfold textP textL numI
    rw [clampN_nat (by omega), List.append_assoc, numP_numL (by omega) h1]
    simp only
    rw [if_neg (by simp), List.take_left' rfl, List.drop_left' rfl]
  simp only [rdT, hp]
theorem rdSeqs_enc : ∀ (k : Nat) (l : List Int) (r : List UInt8), l.length = k → (∀ n ∈ l, 0 ≤ n ∧ n ≤ 1099511627776) → rdSeqs k (some (numsL l ++ r)) = (l, some r)
  | 0, l, r, hl, _ => by
    have := List.eq_nil_of_length_eq_zero hl
    subst this; rfl
  | k + 1, l, r, hl, hr => by
    rcases List.eq_nil_or_concat l with h1 | ⟨l', x, h1⟩
    · rw [h1] at hl; cases hl
    · have h1 : l = l' ++ [x] := by simpa using h1
      subst h1
      have hx := hr x (by simp)
      have ih := rdSeqs_enc k l' (numI x ++ r) (by simpa using hl) fun n hn => hr n (by simp [hn])
      rw [numsL_append, numsL_one, List.append_assoc]
      unfold rdSeqs
      rw [ih]
      simp only
      rw [rdN_enc hx.1 hx.2 (by decide)]
theorem rdEnts_enc : ∀ (k : Nat) (l : List Ent) (r : List UInt8), l.length = k → (∀ e ∈ l, e.name.size ≤ 8 ∧ 0 ≤ e.node ∧ e.node ≤ 11) → rdEnts k (some (encEs l ++ r)) = (l, some r)
  | 0, l, r, hl, _ => by
    have := List.eq_nil_of_length_eq_zero hl
    subst this; rfl
  | k + 1, l, r, hl, hr => by
    rcases List.eq_nil_or_concat l with h1 | ⟨l', x, h1⟩
    · rw [h1] at hl; cases hl
    · have h1 : l = l' ++ [x] := by simpa using h1
      subst h1
      have hx := hr x (by simp)
      have ih := rdEnts_enc k l' (textL (bl x.name) ++ (numI x.node ++ r)) (by simpa using hl) fun n hn => hr n (by simp [hn])
      rw [encEs_snoc]
      unfold encE
      rw [List.append_assoc, List.append_assoc]
      unfold rdEnts
      rw [ih]
      simp only
      rw [rdT_enc (by rw [bl_len]; exact hx.1) (by decide)]
      simp only
      rw [rdN_enc hx.2.1 (by omega) (by decide), ba_bl]
theorem rdNod_enc {n : Nod} {r : List UInt8} (h : mayN n = true) : rdNod (some (encN n ++ r)) = (n, some r) := by
  obtain ⟨kind, links, size, seqs, ents⟩ := n
  have hm := h
  unfold mayN at hm
  simp only at hm
  split at hm
  · rename_i hk
    subst hk
    simp only [Bool.and_eq_true, decide_eq_true_eq, List.length_eq_zero_iff] at hm
    obtain ⟨⟨⟨rfl, rfl⟩, rfl⟩, rfl⟩ := hm
    rw [encN_0 (by decide) (by decide)]
    unfold rdNod
    rw [rdN_enc (by decide) (by decide) (by decide)]
    rfl
  · split at hm
    · rename_i hk
      subst hk
      unfold fileB within at hm
      simp only [Bool.and_eq_true, decide_eq_true_eq, List.length_eq_zero_iff, List.all_eq_true, List.mem_range] at hm
      obtain ⟨⟨⟨⟨⟨l0, l1⟩, ⟨z0, z1⟩⟩, h5⟩, rfl⟩, hs⟩ := hm
      have hs2 : ∀ n ∈ seqs, 0 ≤ n ∧ n ≤ 1099511627776 := fun n hn => by
        obtain ⟨i, hi, rfl⟩ := List.getElem_of_mem hn
        have := hs i hi
        unfold okS within at this
        rw [getD_at0 hi] at this
        simp only [Bool.and_eq_true, decide_eq_true_eq] at this
        exact this.1
      rw [encN_1 rfl]
      simp only [List.append_assoc]
      unfold rdNod
      rw [rdN_enc (n := 1) (by decide) (by decide) (by decide)]
      simp only [if_pos]
      unfold rdFile
      rw [rdN_enc l0 (by exact l1) (by decide)]
      simp only
      rw [rdN_enc z0 (by exact z1) (by decide)]
      simp only
      rw [rdSeqs_enc 5 seqs r h5 hs2]
    · split at hm
      · rename_i h1 hk
        subst hk
        simp only [Bool.and_eq_true, decide_eq_true_eq, List.length_eq_zero_iff] at hm
        obtain ⟨⟨⟨rfl, rfl⟩, rfl⟩, hl⟩ := hm
        have h10 := mayL_len hl
        have he : ∀ e ∈ ents, e.name.size ≤ 8 ∧ 0 ≤ e.node ∧ e.node ≤ 11 := fun e he => by
          have := mayL_node hl he
          have := mayB_size this.2.2
          omega
        rw [encN_2 rfl]
        simp only [List.append_assoc]
        unfold rdNod
        rw [rdN_enc (n := 2) (by decide) (by decide) (by decide)]
        simp only
        rw [if_neg (by decide), if_pos trivial]
        unfold rdDir
        rw [rdN_enc (n := ((ents.length : Nat) : Int)) (by omega) (by omega) (by decide)]
        simp only [Int.toNat_natCast]
        rw [rdEnts_enc ents.length ents r rfl he]
      · cases hm
theorem rdTre_enc : ∀ (k : Nat) (t : Tre) (r : List UInt8), t.length = k → (∀ n ∈ t, mayN n = true) → rdTre k (some (encT t ++ r)) = (t, some r)
  | 0, t, r, hl, _ => by
    have := List.eq_nil_of_length_eq_zero hl
    subst this; rfl
  | k + 1, t, r, hl, hr => by
    rcases List.eq_nil_or_concat t with h1 | ⟨t', x, h1⟩
    · rw [h1] at hl; cases hl
    · have h1 : t = t' ++ [x] := by simpa using h1
      subst h1
      have hx := hr x (by simp)
      have ih := rdTre_enc k t' (encN x ++ r) (by simpa using hl) fun n hn => hr n (by simp [hn])
      rw [encT_snoc, List.append_assoc]
      unfold rdTre
      rw [ih]
      simp only
      rw [rdNod_enc hx]
theorem mayT_facts {t : Tre} (h : mayT t = true) : t.length = 12 ∧ (∀ n ∈ t, mayN n = true) ∧ apartL (allS t) = true := by
  unfold mayT at h
  simp only [Bool.and_eq_true, decide_eq_true_eq, List.all_eq_true] at h
  exact ⟨h.1.1.1.1, h.1.1.1.2, h.2⟩
theorem rdT_full {t : Tre} (h : mayT t = true) (r : List UInt8) : rdTre 12 (some (encT t ++ r)) = (t, some r) := rdTre_enc 12 t r (mayT_facts h).1 (mayT_facts h).2.1
/-- What is written is read as it was. -/
theorem parseT_back {t : Tre} (h : mayT t = true) : parseT (encT t) = some t := by
  have := rdT_full h []
  rw [List.append_nil] at this
  unfold parseT
  rw [this, if_pos ⟨rfl, h⟩]
/-- Two trees with the same bytes are the same. -/
theorem encT_inj {t u : Tre} (ht : mayT t = true) (hu : mayT u = true) (h : encT t = encT u) : t = u := by
  have := parseT_back ht
  rw [h, parseT_back hu] at this
  exact (Option.some.inj this).symm
theorem parseT_cut {t : Tre} {m : Nat} (h : mayT t = true) (hm : m < (encT t).length) : parseT ((encT t).take m) = none := by
  cases hp : parseT ((encT t).take m) with
  | none => rfl
  | some u =>
    exfalso
    obtain ⟨hu, he⟩ := parseT_enc hp
    have h1 := rdT_full h []
    have h2 := rdT_full hu ((encT t).drop m)
    rw [he, List.take_append_drop] at h2
    rw [List.append_nil, h2] at h1
    have h3 : (encT t).drop m = [] := Option.some.inj (Prod.mk.inj h1).2
    have := List.length_drop (i := m) (l := encT t)
    rw [h3] at this
    simp at this
    omega
theorem parseT_more {t : Tre} {c : UInt8} (h : mayT t = true) : parseT (encT t ++ [c]) = none := by
  unfold parseT
  rw [rdT_full h [c], if_neg (by rintro ⟨h, _⟩; simp at h)]
theorem encN_pos (n : Nod) : 0 < (encN n).length := by
  unfold encN numI numL
  simp only [List.length_append, List.length_cons, List.length_nil]
  omega
theorem encT_pos {t : Tre} (h : mayT t = true) : 0 < (encT t).length := by
  have h12 := (mayT_facts h).1
  cases t with
  | nil => cases h12
  | cons n t =>
    have e : encT (n :: t) = encN n ++ encT t := by simp [encT]
    have := encN_pos n
    rw [e, List.length_append]; omega
end Go.Proofs.YtdlgpolngnkiaaaDoor

/- RootCut: bytes that are cut short, or have one more behind, are no tree. -/
namespace Go.Proofs.YtdlgpolngnkiaaaDoor
open Go
theorem wrap_u64_nn (a : Int) : 0 ≤ IntKind.u64.wrap a := by
  unfold IntKind.wrap
  simp [IntKind.signed, IntKind.bits]
  omega
theorem wrap_u64_id {a : Int} (h0 : 0 ≤ a) (h1 : a ≤ 9223372036854775807) : IntKind.u64.wrap a = a := by
  unfold IntKind.wrap
  simp [IntKind.signed, IntKind.bits]
  omega
end Go.Proofs.YtdlgpolngnkiaaaDoor

/- DirFrees, DirInside. -/
namespace Go.Proofs.YtdlgpolngnkiaaaDoor
open Go
theorem freeT_range {t : Tre} : freeT t = -1 ∨ (0 ≤ freeT t ∧ freeT t < t.length) := by
  unfold freeT
  split
  · rcases idxI_range (fun n : Nod => decide (n.kind = 0)) t with ⟨h, _⟩ | ⟨h1, h2, _⟩
    · exact .inl h
    · exact .inr ⟨h1, h2⟩
  · exact .inl rfl
theorem freeT_spec {t : Tre} (h : mayT t = true) : (freeT t = -1 ∧ ∀ i, i < t.length → kindT t i ≠ 0) ∨ ∃ f : Nat, freeT t = f ∧ f < t.length ∧ kindT t f = 0 ∧ ∀ i, i < f → kindT t i ≠ 0 := by
  unfold freeT
  rw [if_pos h]
  generalize hp : (fun n : Nod => decide (n.kind = 0)) = p
  have key : ∀ l : Tre, (idxI p l = -1 ∧ ∀ i, i < l.length → (l.getD i default).kind ≠ 0) ∨ ∃ f : Nat, idxI p l = f ∧ f < l.length ∧ (l.getD f default).kind = 0 ∧ ∀ i, i < f → (l.getD i default).kind ≠ 0 := by
    intro l
    induction l with
    | nil => exact .inl ⟨rfl, fun i hi => absurd hi (by simp)⟩
    | cons n l ih =>
      unfold idxI
      by_cases hn : n.kind = 0
      · right
        refine ⟨0, ?_, by simp, by simpa using hn, fun i hi => absurd hi (by omega)⟩
        rw [if_pos (by rw [← hp]; exact decide_eq_true hn)]; rfl
      · rw [if_neg (by rw [← hp]; simpa using hn)]
        rcases ih with ⟨h1, h2⟩ | ⟨f, h1, h2, h3, h4⟩
        · left
          refine ⟨by rw [h1]; rfl, fun i hi => ?_⟩
          cases i with
          | zero => simpa using hn
          | succ i => simpa using h2 i (by simpa using hi)
        · right
          refine ⟨f + 1, by rw [h1]; simp, by simpa using h2, by simpa using h3, fun i hi => ?_⟩
          cases i with
          | zero => simpa using hn
          | succ i => simpa using h4 i (by omega)
  exact key t
/-- What a law asks first: is the tree light, may it be? -/
theorem guard_ok {s : Sl} {t : Tre} {V : View} (h : SlR V s t) : ∀ {P : Bool → View → Prop}, (∀ V' q, (q = false → mayT t = true ∧ LightT t) → (q = true → mayT t = false ∨ ¬ (t.length = 12 ∧ ∀ n ∈ t, mayN n = true)) → V.Le V' → P q V') →
    CallV Tryd.prog 9 ⟨[treV s]⟩ V fun r V' => ∃ x : Int, r = .int .i64 x ∧ br (decide (0 < x)) (P true V') (CallV Tryd.prog 10 ⟨[treV s]⟩ V' fun r V' => ∃ x : Bool, r = .bool x ∧ P (!x) V') := by
  intro P hP
  refine (light15s_ok h).mono ?_
  rintro r V1 ⟨x, rfl, x0, x1, x2, x3, rfl⟩
  refine ⟨x, rfl, br_intro (fun hb => hP _ _ (fun h => by cases h) (fun _ => .inr fun hm => ?_) (View.Le.refl _)) (fun hb => (mayTree_ok h).mono ?_)⟩
  · have := x3 hm
    have := of_decide_eq_true hb
    omega
  · have hb := of_decide_eq_false hb
    rintro r V2 ⟨rfl, hV2⟩
    exact ⟨_, rfl, hP _ _ (fun hq => ⟨not_f hq, x2 (by omega)⟩) (fun hq => .inl (not_t hq)) hV2⟩
theorem mayT_no {t : Tre} (h : mayT t = false ∨ ¬ (t.length = 12 ∧ ∀ n ∈ t, mayN n = true)) : mayT t = false := by
  rcases h with h | h
  · exact h
  · cases hM : mayT t
    · rfl
    · exact absurd ⟨(mayT_all hM).1, (mayT_all hM).2.1⟩ h
end Go.Proofs.YtdlgpolngnkiaaaDoor

/- DirInside. -/
namespace Go.Proofs.YtdlgpolngnkiaaaDoor
open Go
theorem mod12 (a : Int) : ∃ n : Nat, Int.tmod (IntKind.u64.wrap a) 12 = n ∧ n < 12 := by
  have hw := wrap_u64_nn a
  have m0 := Int.tmod_nonneg (12 : Int) hw
  have m1 := Int.tmod_lt_of_pos (IntKind.u64.wrap a) (show (0 : Int) < 12 by decide)
  exact ⟨(Int.tmod (IntKind.u64.wrap a) 12).toNat, by omega, by omega⟩
end Go.Proofs.YtdlgpolngnkiaaaDoor
