/- A weakest precondition over views, worked out from the code: slots are eliminated, variables of the call's own in memory are registers. -/
import Derived.Test.YtgkmcnafkhdlnaaGreatView
namespace Go.Proofs.YtgkmcnafkhdlnaaGreat
open Go Go.RowKit

/-- What one cell holds. -/
inductive K where
  | int (k : IntKind) | bool | str | sl | ptr | map | val
structure Sl where
  a : Option Addr
  n : Nat
  c : Nat
@[reducible] def K.ty : K → Type
  | .int _ => Int
  | .bool => Bool
  | .str => ByteArray
  | .sl => Sl
  | .ptr => Option Addr
  | .map => Option Nat
  | .val => Value
def K.up : (k : K) → k.ty → Value
  | .int k, n => .int k n
  | .bool, b => .bool b
  | .str, s => .string s
  | .sl, x => .slice x.a x.n x.c
  | .ptr, a => .pointer a
  | .map, r => .map r
  | .val, v => v
def K.dn : (k : K) → Value → Option k.ty
  | .int k, .int k' n => if k = k' then some n else none
  | .bool, .bool b => some b
  | .str, .string s => some s
  | .sl, .slice a n c => some ⟨a, n, c⟩
  | .ptr, .pointer a => some a
  | .map, .map r => some r
  | .val, v => some v
  | _, _ => none
theorem K.up_dn {k : K} {v : Value} {x : k.ty} (h : k.dn v = some x) : k.up x = v := by
  cases k <;> cases v <;> simp only [K.dn] at h <;> first
    | (cases h; done)
    | (split at h
       · rename_i e; subst e; cases h; rfl
       · cases h)
    | (injection h with h; subst h; rfl)

@[reducible] def Ty : List K → Type
  | [] => Unit
  | k :: ks => k.ty × Ty ks
def exTy : (ks : List K) → (List Value → Prop) → Prop
  | [], C => C []
  | k :: ks, C => ∃ x : k.ty, exTy ks fun vs => C (k.up x :: vs)
inductive VK where
  | one (k : K) | agg (ks : List K)
def exV : VK → (Value → Prop) → Prop
  | .one k, C => ∃ x : k.ty, C (k.up x)
  | .agg ks, C => exTy ks fun vs => C (.agg ⟨vs⟩)
def exVs : List VK → (List Value → Prop) → Prop
  | [], C => C []
  | k :: ks, C => exV k fun v => exVs ks fun vs => C (v :: vs)

/-- Of a type's cells the kinds. -/
def kinds (P : Program) : Nat → TypeId → Option (List K)
  | 0, _ => none
  | f + 1, t => match P.underlying t with
    | some .bool => some [.bool]
    | some (.int k) => some [.int k]
    | some .string => some [.str]
    | some (.slice _) => some [.sl]
    | some (.pointer _) => some [.ptr]
    | some (.map _ _) => some [.map]
    | some (.func _ _ _) => some [.val]
    | some (.struct fs) => fs.toList.foldr (fun fd acc => match kinds P f fd.type, acc with
      | some a, some b => some (a ++ b)
      | _, _ => none) (some [])
    | some (.array n e) => (kinds P f e).map fun ks => (List.replicate n ks).flatten
    | _ => none
def vk (P : Program) (t : TypeId) : Option VK :=
  match P.underlying t with
  | some (.struct _) | some (.array _ _) => match kinds P 6 t with
    | some ks => if P.cellsOf t = ks.length then some (.agg ks) else none
    | none => none
  | _ => match kinds P 6 t with
    | some [k] => some (.one k)
    | _ => none
def vks (P : Program) : List TypeId → Option (List VK)
  | [] => some []
  | t :: ts => match vk P t, vks P ts with
    | some a, some b => some (a :: b)
    | _, _ => none
/-- Some value of this type. -/
def exRes (P : Program) (t : TypeId) (C : Value → Prop) : Prop :=
  match P.underlying t with
  | some (.tuple ts) => match vks P ts.toList with
    | some ks => exVs ks fun vs => C (.tuple ⟨vs⟩)
    | none => False
  | _ => match vk P t with
    | some k => exV k C
    | none => False

/-! ### what is asked of views -/
/-- From a on these cells are seen. -/
def cellsAt (V : View) (a : Addr) (vs : List Value) : Prop := ∀ j v, vs[j]? = some v → V.cell? (a.add j) = some v
def ldV (V : View) (a : Addr) : VK → (Value → Prop) → Prop
  | .one k, C => ∃ x : k.ty, V.cell? a = some (k.up x) ∧ C (k.up x)
  | .agg ks, C => exTy ks fun vs => cellsAt V a vs ∧ C (.agg ⟨vs⟩)
/-- The first k cells of a row. -/
def rowAt (V : View) (a : Option Addr) (k : Nat) (cs : List Value) : Prop :=
  match a with
  | none => cs = []
  | some a => cs.length = k ∧ cellsAt V a cs
def setObj (o : Obj) (off : Nat) : List Value → Obj
  | [] => o
  | v :: vs => match o with
    | .cells c e f => setObj (.cells (c.setIfInBounds off v) e f) (off + 1) vs
    | o => o
/-- These cells may be written. -/
def canSet (V : View) (a : Addr) (k : Nat) : Prop :=
  a.spot = none ∧ ∃ c e f, V.see a.block = some (.cells c e f) ∧ a.off + k ≤ c.size ∧ (∀ j, j < k → ¬ (f.1 ≤ a.off + j ∧ a.off + j < f.2))
def View.sets (V : View) (a : Addr) (vs : List Value) : View :=
  match V.see a.block with
  | some o => V.put a.block (setObj o a.off vs)
  | none => V
def bytesV (s : ByteArray) : List Value := s.data.toList.map fun b => .int .u8 b.toNat
/-- What is appended: how many elements, their cells. -/
def srcAt (V : View) (size : Nat) (zero : List Value) : Value → Nat → List Value → Prop
  | .slice b m _, k, cs => k = m ∧ rowAt V b (m * size) cs
  | .string s, k, cs => k = s.size ∧ cs = bytesV s
  | .int _ n, k, cs => 0 ≤ n ∧ k = n.toNat ∧ cs = (List.replicate k zero).flatten
  | _, _, _ => False
def apV (V : View) (e : TypeId) (size bytes : Nat) (zero : List Value) (x : Sl) (y : Value) (C : Sl → View → Prop) : Prop :=
  ∃ (old src : List Value) (m : Nat), rowAt V x.a (x.n * size) old ∧ srcAt V size zero y m src ∧ src.all Value.oneCell' = true ∧ (x.n + m) * bytes ≤ 140737488355328 ∧ x.n + m ≤ 140737488355328 ∧
    (x.n + m ≤ x.c → match x.a with
      | none => C ⟨none, x.n + m, x.c⟩ V
      | some a => canSet V (a.add (x.n * size)) src.length ∧ C ⟨some a, x.n + m, x.c⟩ (V.sets (a.add (x.n * size)) src)) ∧
    (x.c < x.n + m → ∀ r cap, V.size ≤ r → x.n + m ≤ cap →
      C ⟨some ⟨r, 0, none⟩, x.n + m, cap⟩ (V.put r (.cells (old ++ src ++ (List.replicate (cap - (x.n + m)) zero).flatten).toArray e (0, 0))))
/-- A new block. -/
def newB (V : View) (o : Obj) (C : Nat → View → Prop) : Prop := ∀ r, V.size ≤ r → C r (V.put r o)

def inI (k : IntKind) (n : Int) : Prop := k.min ≤ n ∧ n ≤ k.max
def bitsI (op : BinOp) (k : IntKind) (a b : Int) : Int :=
  match op with
  | .and => k.wrap ((BitVec.ofInt k.bits a &&& BitVec.ofInt k.bits b).toNat)
  | .or => k.wrap ((BitVec.ofInt k.bits a ||| BitVec.ofInt k.bits b).toNat)
  | .xor => k.wrap ((BitVec.ofInt k.bits a ^^^ BitVec.ofInt k.bits b).toNat)
  | _ => k.wrap ((BitVec.ofInt k.bits a &&& ~~~ BitVec.ofInt k.bits b).toNat)
def sLess (a b : ByteArray) : Bool := Op.bytesLess a.data.toList b.data.toList
/-- n, if it is in range; or it is wrapped. -/
def ari (wr : Bool) (k : IntKind) (n : Int) (C : Value → Prop) : Prop :=
  match wr, k with
  | false, .i64 => inI .i64 n ∧ C (.int .i64 n)
  | _, k => C (.int k (k.wrap n))

/-! ### the state -/
inductive RV where
  | v (x : Value)
  | box (i off : Nat)
structure SE where
  conds : List (Nat × Bool)
  tag : Option Nat
  rv : RV
structure Box where
  ver : Nat
  blk : Nat
  ty : TypeId
  cells : Option (List Value)   -- none: it is open: in the view
structure St where
  slots : List (Nat × Option SE)
  boxes : List Box
  gam : List Bool
  known : List (Nat × Bool)

def memC : List (Nat × Bool) → Nat → Bool → Bool
  | [], _, _ => false
  | (t, b) :: l, t', b' => (t == t' && b == b') || memC l t' b'
def subC (l m : List (Nat × Bool)) : Bool := l.all fun (t, b) => memC m t b
def SE.val (v : Value) : Option SE := some ⟨[], none, .v v⟩
def St.entry (st : St) (ctx : List (Nat × Bool)) (t : Tmp) : Option SE :=
  match st.slots[t]? with
  | some (_, some e) => if subC e.conds (ctx ++ st.known) then some e else none
  | _ => none
def St.rv (st : St) (ctx : List (Nat × Bool)) : Operand → Option RV
  | .tmp t => (st.entry ctx t).map (·.rv)
  | .const v => some (.v v)
  | .global g => some (.v (.pointer (some ⟨g, 0, none⟩)))
  | .func f => some (.v (.func (.func f) #[] #[]))
/-- A value that may leave: a pointer to a box only if the box is open. -/
def toV (bx : List Box) : RV → Option Value
  | .v x => some x
  | .box i off => match bx[i]? with
    | some ⟨_, b, _, none⟩ => some (.pointer (some ⟨b, off, none⟩))
    | _ => none
def vals (bx : List Box) (ρ : Operand → Option RV) : List Operand → Option (List Value)
  | [] => some []
  | x :: xs => match ρ x, vals bx ρ xs with
    | some r, some vs => match toV bx r with
      | some v => some (v :: vs)
      | none => none
    | _, _ => none

def kk (k k' : IntKind) (p : Prop) : Prop := match decide (k = k') with
  | true => p
  | false => False
def binX (wr : Bool) (op : BinOp) (x y : Value) (C : Value → Prop) : Prop :=
  match op, x, y with
  | .add, .int k a, .int k' b => kk k k' (ari wr k (a + b) C)
  | .sub, .int k a, .int k' b => kk k k' (ari wr k (a - b) C)
  | .mul, .int k a, .int k' b => kk k k' (ari wr k (a * b) C)
  | .quo, .int k a, .int k' b => kk k k' (b ≠ 0 ∧ ari wr k (a.tdiv b) C)
  | .rem, .int k a, .int k' b => kk k k' (b ≠ 0 ∧ C (.int k (a.tmod b)))
  | .and, .int k a, .int k' b => kk k k' (C (.int k (bitsI .and k a b)))
  | .or, .int k a, .int k' b => kk k k' (C (.int k (bitsI .or k a b)))
  | .xor, .int k a, .int k' b => kk k k' (C (.int k (bitsI .xor k a b)))
  | .andNot, .int k a, .int k' b => kk k k' (C (.int k (bitsI .andNot k a b)))
  | .shl, .int k a, .int _ b => 0 ≤ b ∧ ari wr k (a * 2 ^ min b.toNat k.bits) C
  | .shr, .int k a, .int _ b => 0 ≤ b ∧ C (.int k (a.fdiv (2 ^ min b.toNat k.bits)))
  | .eql, .int k a, .int k' b => kk k k' (C (.bool (decide (a = b))))
  | .neq, .int k a, .int k' b => kk k k' (C (.bool (!decide (a = b))))
  | .lss, .int k a, .int k' b => kk k k' (C (.bool (decide (a < b))))
  | .leq, .int k a, .int k' b => kk k k' (C (.bool (decide (a ≤ b))))
  | .gtr, .int k a, .int k' b => kk k k' (C (.bool (decide (b < a))))
  | .geq, .int k a, .int k' b => kk k k' (C (.bool (decide (b ≤ a))))
  | .add, .string a, .string b => a.size + b.size ≤ 9223372036854775807 ∧ C (.string (a ++ b))
  | .eql, .string a, .string b => C (.bool (decide (a = b)))
  | .neq, .string a, .string b => C (.bool (!decide (a = b)))
  | .lss, .string a, .string b => C (.bool (sLess a b))
  | .leq, .string a, .string b => C (.bool (!sLess b a))
  | .gtr, .string a, .string b => C (.bool (sLess b a))
  | .geq, .string a, .string b => C (.bool (!sLess a b))
  | _, _, _ => False
/-- '==' and '!=' of what is no number and no text: of one type, by the model's own. -/
def negB : BinOp → Bool → Bool
  | .neq, b => !b
  | _, b => b
/-- A part of type t of these cells. -/
def partX (P : Program) (t : TypeId) (cs : List Value) (off : Nat) : Option Value :=
  match P.underlying t with
  | some (.struct _) | some (.array _ _) => if off + P.cellsOf t ≤ cs.length then some (.agg ⟨(cs.drop off).take (P.cellsOf t)⟩) else none
  | some _ => cs[off]?
  | none => none
/-- '==' of data of one type: what it says, part by part. -/
def eqCF (E : TypeId → Value → Value → Option Bool) (P : Program) : List Field → List Value → List Value → Option Bool
  | [], _, _ => some true
  | f :: r, xs, ys => match partX P f.type xs f.offset, partX P f.type ys f.offset with
    | some a, some b => match E f.type a b, eqCF E P r xs ys with
      | some g, some h => some (g && h)
      | _, _ => none
    | _, _ => none
def eqC (P : Program) : Nat → TypeId → Value → Value → Option Bool
  | 0, _, _, _ => none
  | d + 1, t, x, y => match P.underlying t, x, y with
    | some (.int _), .int k a, .int k' b => match decide (k = k') with
      | true => some (decide (a = b))
      | false => none
    | some .string, .string a, .string b => some (decide (a = b))
    | some .bool, .bool a, .bool b => some (a == b)
    | some (.struct fs), .agg ⟨xs⟩, .agg ⟨ys⟩ => eqCF (eqC P d) P fs.toList xs ys
    | _, _, _ => none
/-- A type of numbers, texts, Bools and structs of such, none of which is hidden. -/
def eqT (P : Program) : Nat → TypeId → Bool
  | 0, _ => false
  | d + 1, t => match P.underlying t with
    | some (.int _) | some .string | some .bool => true
    | some (.struct fs) => !P.stoodInHeld t && fs.toList.all fun f => f.name != "_" && eqT P d f.type
    | _ => false
def eqOk (P : Program) (t : TypeId) : Prop := (match eqT P 6 t && !P.eqGuardType P.depth t with
  | true => True
  | false => False)
def eqlX (P : Program) (t : TypeId) (op : BinOp) (x y : Value) (C : Value → Prop) : Prop :=
  match x, y with
  | .agg a, .agg b => eqOk P t ∧ match eqC P 6 t (.agg a) (.agg b) with
    | some r => C (.bool (negB op r))
    | none => False
  | .bool a, .bool b => match P.underlying t with
    | some .bool => C (.bool (negB op (a == b)))
    | _ => False
  | _, _ => False
/-- Against nil. -/
def nilX (P : Program) (t : TypeId) (x y : Value) : Option Bool :=
  match P.underlying t, x, y with
  | some (.pointer _), .pointer a, .pointer none => some a.isNone
  | some (.slice _), .slice a _ _, .slice none _ _ => some a.isNone
  | some (.map _ _), .map a, .map none => some a.isNone
  | _, _, _ => none
/-- '==', '!=' -/
def eqX (P : Program) (wr : Bool) (op : BinOp) (t : TypeId) (x y : Value) (C : Value → Prop) : Prop :=
  match x, y with
  | .int _ _, .int _ _ | .string _, .string _ => binX wr op x y C
  | x, y => match nilX P t x y with
    | some b => C (.bool (negB op b))
    | none => eqlX P t op x y C

/-! ### maps -/
def keyEq1 : Value → Value → Option Bool
  | .int k a, .int k' b => match decide (k = k') with
    | true => some (decide (a = b))
    | false => none
  | .string a, .string b => some (decide (a = b))
  | .bool a, .bool b => some (a == b)
  | _, _ => none
def keyEqL : List Value → List Value → Option Bool
  | [], [] => some true
  | a :: as, b :: bs => match keyEq1 a b, keyEqL as bs with
    | some g, some h => some (g && h)
    | _, _ => none
  | _, _ => none
def keyEq : Value → Value → Option Bool
  | .agg ⟨as⟩, .agg ⟨bs⟩ => keyEqL as bs
  | a, b => keyEq1 a b
/-- A key of one cell, of its type's kind. -/
def fit1 : TypeDesc → Value → Bool
  | .int _, .int _ _ => true
  | .string, .string _ => true
  | .bool, .bool _ => true
  | _, _ => false
def fitF (P : Program) : Nat → List Field → List Value → Bool
  | _, [], [] => true
  | i, f :: r, v :: vs => f.offset == i && (match P.underlying f.type with
    | some d => fit1 d v
    | none => false) && fitF P (i + 1) r vs
  | _, _, _ => false
def keyFit (P : Program) (t : TypeId) (k : Value) : Bool :=
  match P.underlying t, k with
  | some (.struct fs), .agg ⟨vs⟩ => fitF P 0 fs.toList vs
  | some d, k => fit1 d k
  | none, _ => false
/-- Where a key stands, and what. none: it is not told. -/
def mfind (k : Value) : List MapEntry → Nat → Option (Option (Nat × Value))
  | [], _ => some none
  | e :: es, i => match keyEq k e.key with
    | some true => some (some (i, e.val))
    | some false => mfind k es (i + 1)
    | none => none
def found (z : Value) : Option (Nat × Value) → Value
  | some p => p.2
  | none => z
def lookV (ok : Bool) (v : Value) (f : Option (Nat × Value)) : Value := match ok with
  | true => .tuple ⟨[v, .bool f.isSome]⟩
  | false => v
/-- The key is looked for. -/
def mapG (V : View) (m : Option Nat) (k : Value) (C : Option (Nat × Value) → Prop) : Prop :=
  match m with
  | none => C none
  | some r => ∃ es cl f, V.see r = some (.map es cl) ∧ mfind k es.toList 0 = some f ∧ C f
def mput (es : Array MapEntry) (cl : Nat) (f : Option (Nat × Value)) (k v : Value) : Obj :=
  match f with
  | some p => .map (es.modify p.1 fun e => { e with key := k, val := v }) cl
  | none => .map (es.push { key := k, val := v, born := cl }) (cl + 1)
def mborn (es : Array MapEntry) (cl : Nat) : Option (Nat × Value) → Nat
  | some p => ((es[p.1]?).map (·.born)).getD 0
  | none => cl
/-- The map is to be written, at this key. -/
def mapW (V : View) (m : Option Nat) (k : Value) (C : Nat → Array MapEntry → Nat → Option (Nat × Value) → Prop) : Prop :=
  ∃ r es cl f, m = some r ∧ V.see r = some (.map es cl) ∧ mfind k es.toList 0 = some f ∧ C r es cl f
/-- What stands behind a stamp is written. -/
def mapS (V : View) (m : Option Nat) (b : Int) (v : Value) (C : View → Prop) : Prop :=
  ∃ r es cl i, m = some r ∧ V.see r = some (.map es cl) ∧ es.findIdx? (fun e => (e.born : Int) == b) = some i ∧ C (V.put r (.map (es.modify i fun e => { e with val := v }) cl))
/-- A key is struck. -/
def mapD (V : View) (m : Option Nat) (k : Value) (C : View → Prop) : Prop :=
  match m with
  | none => C V
  | some r => ∃ es cl f, V.see r = some (.map es cl) ∧ mfind k es.toList 0 = some f ∧ C (V.put r (.map (match f with
    | some p => es.eraseIdxIfInBounds p.1
    | none => es) cl))
/-- A walk over a map begins. -/
def rangeM (V : View) (m : Option Nat) (C : Nat → View → Prop) : Prop :=
  match m with
  | none => ∀ r, V.size ≤ r → C r (V.put r (.mapIter none 0 #[] 0))
  | some b => ∃ es cl, V.see b = some (.map es cl) ∧ ∀ r, V.size ≤ r → C r (V.put r (.mapIter (some b) cl #[] cl))
/-- Its next step: whichever entry comes. -/
def nextM (V : View) (r : Nat) (C : Value → Value → View → Prop) (E : View → Prop) : Prop :=
  (∃ s x l, V.see r = some (.mapIter none s x l) ∧ E V) ∨
  ∃ b s x l es cl, V.see r = some (.mapIter (some b) s x l) ∧ V.see b = some (.map es cl) ∧ (es.all (fun e => decide (e.born < l)) = true ∨ es = #[]) ∧
    (∀ e ∈ es, x.contains e.born = false → C e.key e.val (V.put r (.mapIter (some b) s (x.push e.born) cl))) ∧ ((∀ e ∈ es, e.born < s → x.contains e.born = true) → E V)
def zeroX (P : Program) (t : TypeId) : Option Value := (P.info? t).bind (·.zero)

/-- Does it look at numbers, slots and places alone, or at cells that it is told of? -/
def floats (P : Program) : Op → Bool
  | .move _ | .assign _ | .pick .. | .nilCheck _ | .binOp .. | .unOp .. | .makeFunc .. | .slice .. | .fieldAddr .. | .field .. | .indexAddr .. | .index .. | .extract .. | .load .. | .lookup .. | .build .. => true
  | .convert s d _ => match P.underlying s, P.underlying d with
    | some (.int _), some (.int _) => true
    | some .string, some .string => true
    | some (.slice _), some .string => true
    | _, _ => false
  | .call { callee := .builtin b, argTypes, .. } => match b with
    | .len | .cap => match (argTypes[0]?).bind P.underlying with
      | some .string | some (.slice _) | some (.array ..) => true
      | _ => false
    | .min | .max => true
    | _ => false
  | _ => false
def isLoad (P : Program) : Op → Bool
  | .load .. | .lookup .. => true
  | .convert s d _ => match P.underlying s, P.underlying d with
    | some (.slice _), some .string => true
    | _, _ => false
  | _ => false

def minX (mx : Bool) : Value → List Value → (Value → Prop) → Prop
  | x, [], C => C x
  | .int k x, .int k' y :: r, C => kk k k' (minX mx (.int k (match mx with | true => if y > x then y else x | false => if y < x then y else x)) r C)
  | _, _, _ => False
def boxSet (bx : List Box) (i : Nat) (cs : List Value) : List Box :=
  match bx[i]? with
  | some b => bx.set i { b with ver := b.ver + 1, cells := some cs }
  | none => bx
def putL (cs : List Value) (off : Nat) : List Value → List Value
  | [] => cs
  | v :: vs => putL (cs.set off v) (off + 1) vs
def hi? : Option Value → Nat → Option Int
  | none, n => some n
  | some (.int _ i), _ => some i
  | _, _ => none
def lo? : Option Value → Option Int
  | none => some 0
  | some (.int _ i) => some i
  | _ => none
def optV (ρ : Operand → Option RV) : Option Operand → Option (Option Value)
  | none => some none
  | some x => match ρ x with
    | some (.v v) => some (some v)
    | _ => none
def infoX (P : Program) (t : TypeId) : Option (List Value × Nat × Nat) :=
  match P.info? t with
  | some i => match i.zero with
    | some z => some (z.cells.toList, i.size, i.bytes)
    | none => none
  | none => none
def fillX (place : Nat → Option (Nat × Nat)) (cells : List Value) : List (Nat × Value) → Option (List Value)
  | [] => some cells
  | (i, v) :: rest => match place i with
    | none => none
    | some (off, size) => if v.cells.size = size ∧ off + size ≤ cells.length then fillX place (putL cells off v.cells.toList) rest else none
def partsX (bx : List Box) (ρ : Operand → Option RV) : List (Nat × Operand) → Option (List (Nat × Value))
  | [] => some []
  | (i, x) :: r => match ρ x, partsX bx ρ r with
    | some rv, some l => match toV bx rv with
      | some v => some ((i, v) :: l)
      | none => none
    | _, _ => none
def fieldX (P : Program) (t : TypeId) (f : Nat) : Option (Nat × TypeId) :=
  match P.underlying t with
  | some (.struct fs) => match fs[f]? with
    | some fd => some (fd.offset, fd.type)
    | none => none
  | _ => none
def elemX (P : Program) (t : TypeId) : Option TypeId :=
  match P.underlying t with
  | some (.slice e) => some e
  | _ => none
def arrX (P : Program) (t : TypeId) : Option (Nat × TypeId) :=
  match P.underlying t with
  | some (.array n e) => some (n, e)
  | _ => none

/-- The kinds of a key and its value, in the tuple of a step (if the step's type tells them). -/
def nextC (P : Program) (ty : TypeId) (C : Value → View → Prop) (k v : Value) (V' : View) : Prop :=
  match P.underlying ty with
  | some (.tuple ts) => match vks P ts.toList with
    | some [_, a, b] => exV a fun k' => exV b fun v' => k = k' ∧ v = v' ∧ C (.tuple ⟨[.bool true, k', v']⟩) V'
    | _ => C (.tuple ⟨[.bool true, k, v]⟩) V'
  | _ => C (.tuple ⟨[.bool true, k, v]⟩) V'
def nextX (P : Program) (ty : TypeId) (V : View) (r : Nat) (C : Value → View → Prop) : Prop := nextM V r (fun k v V' => nextC P ty C k v V') (fun V' => C (.tuple ⟨[.bool false]⟩) V')
/-- One operation. VS: where loads are to be read from (the view itself, if none is named). C gets what it leaves in its slot, the boxes, the view. -/
def opX [DrK] (P : Program) (wr : Bool) (VS : Option View) (bx : List Box) (op : Op) (ty : TypeId) (ρ : Operand → Option RV) (V : View)
    (C : Option RV → List Box → View → Prop) : Prop :=
  let one (v : Value) : Prop := C (some (.v v)) bx V
  match op with
  | .move x | .assign x => C (ρ x) bx V
  | .alloc t => match infoX P t with
    | some (cs, _, _) => ∀ b : Nat, C (some (.box bx.length 0)) (bx ++ [⟨0, b, t, some cs⟩]) V
    | none => False
  | .box t x => match (ρ x).bind (toV bx) with
    | some v => ∀ b : Nat, C (some (.box bx.length 0)) (bx ++ [⟨0, b, t, some v.cells.toList⟩]) V
    | none => False
  | .build t parts => match infoX P t, P.underlying t, partsX bx ρ parts.toList with
    | some (z, _, _), some (.struct fs), some ps => match (if fs.toList.all (fun fd => P.cellsOf fd.type != 0) then fillX (fun i => (fs[i]?).map fun fd => (fd.offset, P.cellsOf fd.type)) z ps else none) with
      | some cs => one (.agg ⟨cs⟩)
      | none => False
    | _, _, _ => False
  | .buildSlice t len parts => match elemX P t, partsX bx ρ parts.toList with
    | some e, some ps => match infoX P e with
      | some (z, size, _) => match fillX (fun i => some (i * size, size)) (List.replicate len z).flatten ps with
        | some cs => if len * size ≤ 1000 ∧ z.length = size then newB V (.cells ⟨cs⟩ e (0, 0)) fun r V' => C (some (.v (.slice (some ⟨r, 0, none⟩) len len))) bx V' else False
        | none => False
      | none => False
    | _, _ => False
  | .load t x => match ρ x with
    | some (.box i off) => match bx[i]? with
      | some ⟨_, _, _, some cs⟩ => match partX P t cs off with
        | some v => one v
        | none => False
      | some ⟨_, b, _, none⟩ => match vk P t with
        | some k => ldV (VS.getD V) ⟨b, off, none⟩ k one
        | none => False
      | none => False
    | some (.v (.pointer (some a))) => match vk P t with
      | some k => ldV (VS.getD V) a k one
      | none => False
    | _ => False
  | .store t x y => match ρ x, (ρ y).bind (toV bx) with
    | some (.box i off), some v => match bx[i]? with
      | some ⟨_, _, _, some cs⟩ => if v.cells.size = P.cellsOf t ∧ off + v.cells.size ≤ cs.length ∧ v.cells.toList.all Value.oneCell' = true ∧ P.cellsOf t ≠ 0 then C none (boxSet bx i (putL cs off v.cells.toList)) V else False
      | some ⟨_, b, _, none⟩ => if v.cells.size = P.cellsOf t ∧ v.cells.toList.all Value.oneCell' = true ∧ P.cellsOf t ≠ 0 then canSet V ⟨b, off, none⟩ v.cells.size ∧ C none bx (V.sets ⟨b, off, none⟩ v.cells.toList) else False
      | none => False
    | some (.v (.pointer (some a))), some v => if v.cells.size = P.cellsOf t ∧ v.cells.toList.all Value.oneCell' = true ∧ P.cellsOf t ≠ 0 then canSet V a v.cells.size ∧ C none bx (V.sets a v.cells.toList) else False
    | _, _ => False
  | .nilCheck x => match ρ x with
    | some (.box i off) => C (some (.box i off)) bx V
    | some (.v (.pointer p)) => ∃ a, p = some a ∧ one (.pointer (some a))
    | some (.v (.func (.func g) f c)) => one (.func (.func g) f c)
    | _ => False
  | .binOp op t x y _ => match ρ x, ρ y with
    | some (.v a), some (.v b) => match op with
      | .eql | .neq => eqX P wr op t a b one
      | op => binX wr op a b one
    | some (.box _ _), some (.v (.pointer none)) => match op, P.underlying t with
      | .eql, some (.pointer _) => one (.bool false)
      | .neq, some (.pointer _) => one (.bool true)
      | _, _ => False
    | _, _ => False
  | .unOp op _ x => match op, ρ x with
    | .not, some (.v (.bool b)) => one (.bool !b)
    | .neg, some (.v (.int k n)) => ari wr k (0 - n) one
    | .xor, some (.v (.int k n)) => one (.int k (bitsI .xor k (if k.signed then -1 else k.max) n))
    | _, _ => False
  | .convert s d x => match P.underlying s, P.underlying d, ρ x with
    | some (.int _), some (.int k), some (.v (.int _ n)) => ari wr k n one
    | some .string, some .string, some (.v (.string b)) => one (.string b)
    | some .string, some (.slice e), some (.v (.string b)) => match P.underlying e with
      | some (.int .u8) => ∀ cap, b.size ≤ cap → newB V (.cells ⟨bytesV b ++ List.replicate (cap - b.size) (.int .u8 0)⟩ e (cap, cap + 1)) fun r V' => C (some (.v (.slice (some ⟨r, 0, none⟩) b.size cap))) bx V'
      | _ => False
    | some (.slice e), some .string, some (.v (.slice a n _)) => match P.underlying e with
      | some (.int .u8) => ∃ b : ByteArray, rowAt (VS.getD V) a n (bytesV b) ∧ one (.string b)
      | _ => False
    | some (.slice _), some (.slice e), some (.v (.slice (some ⟨r, off, none⟩) n c)) => match Nat.beq s d, P.underlying e with
      | true, some (.int .u8) => ∃ cs te, V.see r = some (.cells cs te (0, 0)) ∧ C (some (.v (.slice (some ⟨r, off, none⟩) n c))) bx (V.put r (.cells cs te (cs.size, cs.size + 1)))
      | _, _ => False
    | _, _, _ => False
  | .makeFunc fn f c => match fn, vals bx ρ f.toList, vals bx ρ c.toList with
    | .func g, some f', some c' => one (.func (.func g) ⟨f'⟩ ⟨c'⟩)
    | _, _, _ => False
  | .makeMap t none => match P.underlying t with
    | some (.map _ _) => newB V (.map #[] 0) fun r V' => C (some (.v (.map (some r)))) bx V'
    | _ => False
  | .makeSlice t l c => match elemX P t, ρ l, ρ c with
    | some e, some (.v (.int .i64 n)), some (.v (.int .i64 m)) => match infoX P e with
      | some (z, size, bytes) => if z.length = size then 0 ≤ n ∧ n ≤ m ∧ m * bytes ≤ 140737488355328 ∧ m ≤ 140737488355328 ∧
          newB V (.cells ⟨(List.replicate m.toNat z).flatten⟩ e (0, 0)) fun r V' => C (some (.v (.slice (some ⟨r, 0, none⟩) n.toNat m.toNat))) bx V' else False
      | none => False
    | _, _, _ => False
  | .slice t x lo hi none => match P.underlying t, ρ x, optV ρ lo, optV ρ hi with
    | some .string, some (.v (.string s)), some l, some h => match lo? l, hi? h s.size with
      | some i, some j => 0 ≤ i ∧ i ≤ j ∧ j ≤ s.size ∧ one (.string (s.extract i.toNat j.toNat))
      | _, _ => False
    | some (.slice e), some (.v (.slice a n c)), some l, some h => match lo? l, hi? h n with
      | some i, some j => if P.cellsOf e = 0 then False else 0 ≤ i ∧ i ≤ j ∧ j ≤ c ∧ one (.slice (if c = i.toNat then a else a.map (·.add (i.toNat * P.cellsOf e))) (j.toNat - i.toNat) (c - i.toNat))
      | _, _ => False
    | _, _, _, _ => False
  | .fieldAddr t x f => match fieldX P t f, ρ x with
    | some (o, ft), some (.box i off) => if P.cellsOf ft = 0 then False else C (some (.box i (off + o))) bx V
    | some (o, ft), some (.v (.pointer (some a))) => if P.cellsOf ft = 0 then False else one (.pointer (some (a.add o)))
    | _, _ => False
  | .field t x f => match fieldX P t f, ρ x with
    | some (o, ft), some (.v (.agg ⟨cs⟩)) => match partX P ft cs o with
      | some v => one v
      | none => False
    | _, _ => False
  | .indexAddr t x i => match elemX P t, ρ x, ρ i with
    | some e, some (.v (.slice a n _)), some (.v (.int _ j)) => if P.cellsOf e = 0 then False else 0 ≤ j ∧ j < n ∧ ∃ ad, a = some ad ∧ one (.pointer (some (ad.add (j.toNat * P.cellsOf e))))
    | none, some (.v (.pointer (some a))), some (.v (.int _ j)) => match arrX P t with
      | some (n, e) => if P.cellsOf e = 0 then False else 0 ≤ j ∧ j < (n : Nat) ∧ one (.pointer (some (a.add (j.toNat * P.cellsOf e))))
      | none => False
    | _, _, _ => False
  | .lookup t x i ok => match P.underlying t, ρ x, ρ i with
    | some (.map kt et), some (.v (.map m)), some (.v k) => match keyFit P kt k, vk P et, zeroX P et with
      | true, some kd, some z => eqOk P kt ∧ mapG (VS.getD V) m k fun f => exV kd fun v => found z f = v ∧ one (lookV ok v f)
      | _, _, _ => False
    | _, _, _ => False
  | .mapUpdate t x i y => match P.underlying t, ρ x, ρ i, (ρ y).bind (toV bx) with
    | some (.map kt _), some (.v (.map m)), some (.v k), some v => match keyFit P kt k with
      | true => eqOk P kt ∧ mapW V m k fun r es cl f => C none bx (V.put r (mput es cl f k v))
      | false => False
    | _, _, _, _ => False
  | .mapEntry t x i => match P.underlying t, ρ x, ρ i with
    | some (.map kt et), some (.v (.map m)), some (.v k) => match keyFit P kt k, vk P et, zeroX P et with
      | true, some kd, some z => eqOk P kt ∧ mapW V m k fun r es cl f => exV kd fun v => found z f = v ∧ C (some (.v (.tuple ⟨[v, .int .i64 (mborn es cl f)]⟩))) bx (V.put r (mput es cl f k v))
      | _, _, _ => False
    | _, _, _ => False
  | .entryStore _ x s y => match ρ x, ρ s, (ρ y).bind (toV bx) with
    | some (.v (.map m)), some (.v (.int _ b)), some v => mapS V m b v fun V' => C none bx V'
    | _, _, _ => False
  | .range t x => match P.underlying t, ρ x with
    | some (.map _ _), some (.v (.map m)) => rangeM V m fun r V' => C (some (.v (.pointer (some ⟨r, 0, none⟩)))) bx V'
    | _, _ => False
  | .next it false => match ρ it with
    | some (.v (.pointer (some ⟨r, 0, none⟩))) => nextX P ty V r (fun v V' => C (some (.v v)) bx V')
    | _ => False
  | .index t x i => match P.underlying t, ρ x, ρ i with
    | some .string, some (.v (.string s)), some (.v (.int _ j)) => 0 ≤ j ∧ j < s.size ∧ one (.int .u8 ((s.data.toList.getD j.toNat 0).toNat : Int))
    | _, _, _ => False
  | .extract x i => match ρ x with
    | some (.v (.tuple ⟨vs⟩)) => match vs[i]? with
      | some v => one v
      | none => False
    | _ => False
  | .call { callee := .value f, args, .. } => match ρ f, vals bx ρ args.toList with
    | some (.v (.func (.func g) fs cs)), some vs => CallV P g ⟨fs.toList ++ vs ++ cs.toList⟩ V fun r V' => exRes P ty fun v => r = v ∧ C (some (.v v)) bx V'
    | _, _ => False
  | .call { callee := .builtin b, args, argTypes } => match b, argTypes.toList, vals bx ρ args.toList with
    | .len, t :: _, some [x] => match P.underlying t, x with
      | some .string, .string s => one (.int .i64 s.size)
      | some (.slice _), .slice _ n _ => one (.int .i64 n)
      | some (.map _ _), .map none => one (.int .i64 0)
      | some (.map _ _), .map (some r) => ∃ es cl, V.see r = some (.map es cl) ∧ one (.int .i64 es.size)
      | _, _ => False
    | .cap, t :: _, some [x] => match P.underlying t, x with
      | some (.slice _), .slice _ _ n => one (.int .i64 n)
      | _, _ => False
    | .min, _, some (x :: r) => minX false x r one
    | .max, _, some (x :: r) => minX true x r one
    | .append, t :: t2 :: _, some [.slice a n c, y] => match elemX P t, (match P.underlying t2, y with
        | some (.slice _), .int _ _ | some .string, .int _ _ => false
        | some (.slice _), _ | some .string, _ => true
        | some (.int _), .int _ _ => true
        | _, _ => false) with
      | some e, true => match infoX P e with
        | some (z, size, bytes) => if z.length = size ∧ 0 < bytes then apV V e size bytes z ⟨a, n, c⟩ y fun s V' => C (some (.v (.slice s.a s.n s.c))) bx V' else False
        | none => False
      | _, _ => False
    | .delete, t :: _, some [.map m, k] => match P.underlying t with
      | some (.map kt _) => match keyFit P kt k with
        | true => eqOk P kt ∧ mapD V m k fun V' => C (some (.v (.tuple ⟨[]⟩))) bx V'
        | false => False
      | _ => False
    | .clear, t :: _, some [.slice a n _] => match elemX P t with
      | some e => match infoX P e with
        | some (z, _, _) => (n = 0 → C (some (.v (.tuple ⟨[]⟩))) bx V) ∧ (0 < n → match a with
          | none => C (some (.v (.tuple ⟨[]⟩))) bx V
          | some ad => ((List.replicate n z).flatten).all Value.oneCell' = true ∧ canSet V ad ((List.replicate n z).flatten).length ∧ C (some (.v (.tuple ⟨[]⟩))) bx (V.sets ad (List.replicate n z).flatten))
        | none => False
      | none => False
    | .copy, t :: _, some [.slice a n _, .slice b m _] => match elemX P t with
      | some e => if P.cellsOf e = 0 then False else ∃ src : List Value, rowAt V b (min m n * P.cellsOf e) src ∧ src.all Value.oneCell' = true ∧ match a with
        | none => src = [] ∧ one (.int .i64 (min m n : Nat))
        | some ad => canSet V ad src.length ∧ C (some (.v (.int .i64 (min m n : Nat)))) bx (V.sets ad src)
      | none => False
    | _, _, _ => False
  | _ => False

/-! ### states written out: the same, but evaluators come to a state of constructors -/
noncomputable def fN (n : Nat) : (Nat → Prop) → Prop := Nat.rec (fun k => k 0) (fun _ ih k => ih fun m => k (Nat.succ m)) n
theorem fN_eq (n : Nat) : ∀ k, fN n k = k n := by
  induction n with
  | zero => intro k; rfl
  | succ n ih => intro k; exact ih _
noncomputable def fL {α : Type} (fe : α → (α → Prop) → Prop) (l : List α) : (List α → Prop) → Prop := List.rec (fun k => k []) (fun x _ ih k => fe x fun x' => ih fun l' => k (x' :: l')) l
theorem fL_eq {α : Type} {fe : α → (α → Prop) → Prop} (h : ∀ x k, fe x k = k x) (l : List α) : ∀ k, fL fe l k = k l := by
  induction l with
  | nil => intro k; rfl
  | cons x l ih => intro k; show fe x _ = _; rw [h]; exact ih _
def fV (v : Value) (k : Value → Prop) : Prop := k v
def fB (b : Nat × Bool) (k : Nat × Bool → Prop) : Prop := match b with
  | (n, true) => k (n, true)
  | (n, false) => k (n, false)
theorem fB_eq (b : Nat × Bool) (k : Nat × Bool → Prop) : fB b k = k b := by
  obtain ⟨n, b⟩ := b
  cases b <;> rfl
noncomputable def fR (r : RV) (k : RV → Prop) : Prop := match r with
  | .v x => k (.v x)
  | .box i off => fN i fun i => fN off fun off => k (.box i off)
theorem fR_eq [DrK] (r : RV) (k : RV → Prop) : fR r k = k r := by
  cases r <;> simp [fR, fN_eq]
noncomputable def fE (e : Nat × Option SE) (k : Nat × Option SE → Prop) : Prop := match e with
  | (v, none) => fN v fun v => k (v, none)
  | (v, some ⟨c, t, r⟩) => fN v fun v => fL fB c fun c => fR r fun r => match t with
    | none => k (v, some ⟨c, none, r⟩)
    | some t => fN t fun t => k (v, some ⟨c, some t, r⟩)
theorem fE_eq [DrK] (e : Nat × Option SE) (k : Nat × Option SE → Prop) : fE e k = k e := by
  obtain ⟨v, e⟩ := e
  cases e with
  | none => simp [fE, fN_eq]
  | some e =>
    obtain ⟨c, t, r⟩ := e
    cases t <;> simp [fE, fN_eq, fL_eq fB_eq, fR_eq]
noncomputable def fX (b : Box) (k : Box → Prop) : Prop := match b with
  | ⟨v, blk, t, none⟩ => fN v fun v => k ⟨v, blk, t, none⟩
  | ⟨v, blk, t, some cs⟩ => fN v fun v => fL fV cs fun cs => k ⟨v, blk, t, some cs⟩
theorem fX_eq [DrK] (b : Box) (k : Box → Prop) : fX b k = k b := by
  obtain ⟨v, blk, t, cs⟩ := b
  cases cs <;> simp [fX, fN_eq, fL_eq (fe := fV) (fun _ _ => rfl)]
noncomputable def St.force (st : St) (k : St → Prop) : Prop := match st with
  | ⟨s, b, g, n⟩ => fL fE s fun s => fL fX b fun b => fL (fun x k => k x) g fun g => fL fB n fun n => k ⟨s, b, g, n⟩
theorem St.force_eq [DrK] (st : St) (k : St → Prop) : st.force k = k st := by
  obtain ⟨s, b, g, n⟩ := st
  simp [St.force, fL_eq fE_eq, fL_eq fX_eq, fL_eq fB_eq, fL_eq (fe := fun (x : Bool) k => k x) (fun _ _ => rfl)]

/-! ### regions -/
/-- What gives a value without anything being asked. -/
def pureX (P : Program) (bx : List Box) (op : Op) (ρ : Operand → Option RV) : Option RV :=
  match op with
  | .move x | .assign x => ρ x
  | .unOp .not _ x => match ρ x with
    | some (.v (.bool b)) => some (.v (.bool !b))
    | _ => none
  | .binOp op _ x y _ => match op, ρ x, ρ y with
    | .eql, some (.v (.int k a)), some (.v (.int k' b)) => match decide (k = k') with
      | true => some (.v (.bool (decide (a = b))))
      | false => none
    | .neq, some (.v (.int k a)), some (.v (.int k' b)) => match decide (k = k') with
      | true => some (.v (.bool (!decide (a = b))))
      | false => none
    | .lss, some (.v (.int k a)), some (.v (.int k' b)) => match decide (k = k') with
      | true => some (.v (.bool (decide (a < b))))
      | false => none
    | .leq, some (.v (.int k a)), some (.v (.int k' b)) => match decide (k = k') with
      | true => some (.v (.bool (decide (a ≤ b))))
      | false => none
    | .gtr, some (.v (.int k a)), some (.v (.int k' b)) => match decide (k = k') with
      | true => some (.v (.bool (decide (b < a))))
      | false => none
    | .geq, some (.v (.int k a)), some (.v (.int k' b)) => match decide (k = k') with
      | true => some (.v (.bool (decide (b ≤ a))))
      | false => none
    | .eql, some (.v (.string a)), some (.v (.string b)) => some (.v (.bool (decide (a = b))))
    | .neq, some (.v (.string a)), some (.v (.string b)) => some (.v (.bool (!decide (a = b))))
    | .lss, some (.v (.string a)), some (.v (.string b)) => some (.v (.bool (sLess a b)))
    | .leq, some (.v (.string a)), some (.v (.string b)) => some (.v (.bool (!sLess b a)))
    | .gtr, some (.v (.string a)), some (.v (.string b)) => some (.v (.bool (sLess b a)))
    | .geq, some (.v (.string a)), some (.v (.string b)) => some (.v (.bool (!sLess a b)))
    | _, _, _ => none
  | .fieldAddr t x f => match fieldX P t f, ρ x with
    | some (o, ft), some (.box i off) => if P.cellsOf ft = 0 then none else some (.box i (off + o))
    | _, _ => none
  | .load t x => match ρ x with
    | some (.box i off) => match bx[i]? with
      | some ⟨_, _, _, some cs⟩ => (partX P t cs off).map .v
      | _ => none
    | _ => none
  | .call { callee := .builtin .len, args, argTypes } => match argTypes.toList, args.toList with
    | [t], [x] => match P.underlying t, ρ x with
      | some .string, some (.v (.string s)) => some (.v (.int .i64 s.size))
      | some (.slice _), some (.v (.slice _ n _)) => some (.v (.int .i64 n))
      | _, _ => none
    | _, _ => none
  | _ => none
def iteV (g : Bool) : RV → RV → Option RV
  | .v (.bool x), .v (.bool y) => some (.v (.bool (cond g x y)))
  | .v (.int k x), .v (.int k' y) => match decide (k = k') with
    | true => some (.v (.int k (cond g x y)))
    | false => none
  | .v (.string x), .v (.string y) => some (.v (.string (cond g x y)))
  | _, _ => none
/-- Which of these conditions are not known to hold; none: one is known not to. -/
def condRes (known : List (Nat × Bool)) : List (Nat × Bool) → Option (List (Nat × Bool))
  | [] => some []
  | (t, b) :: r => match memC known t b, memC known t (!b) with
    | true, _ => condRes known r
    | _, true => none
    | _, _ => (condRes known r).map ((t, b) :: ·)
def br (g : Bool) (A B : Prop) : Prop := match g with
  | true => A
  | false => B
def brs (gam : List Bool) : List (Nat × Bool) → List (Nat × Bool) → (List (Nat × Bool) → Prop) → (List (Nat × Bool) → Prop) → Prop
  | [], kn, y, _ => y kn
  | (t, want) :: r, kn, y, n => match gam[t]? with
    | some g => br g (match want with
        | true => brs gam r ((t, true) :: kn) y n
        | false => n ((t, true) :: kn)) (match want with
        | true => n ((t, false) :: kn)
        | false => brs gam r ((t, false) :: kn) y n)
    | none => False
def St.set (st : St) (dst : Option Tmp) (e : Option SE) : St :=
  match dst with
  | some d => match st.slots[d]? with
    | some (v, _) => { st with slots := st.slots.set d (v + 1, e) }
    | none => st
  | none => st
/-- What an operation leaves in its slot; a Bool gets a tag of its own. -/
def St.leave (st : St) (o : Oper) (ctx : List (Nat × Bool)) (r : Option RV) : St :=
  match r with
  | none => st.set o.dst none
  | some (.v (.bool g)) => { st.set o.dst (some ⟨ctx, some st.gam.length, .v (.bool g)⟩) with gam := st.gam ++ [g] }
  | some (.box i off) => match st.boxes[i]? with
    | some _ => st.set o.dst (some ⟨ctx, none, .box i off⟩)
    | none => st.set o.dst none
  | some rv => st.set o.dst (some ⟨ctx, none, rv⟩)
/-- State that goes round a loop, or through a join: slots, and whole boxes. -/
structure SS where
  kill : List Nat
  slots : List (Nat × K)
  boxes : List (Nat × List K)
/-- In which order operations are taken: one that floats, first; or any of several others. -/
inductive DT where
  | done | no
  | fl (i : Nat) (t : DT)
  | alt (i : Nat) (e g : Bool) (t r : DT)
def DT.heads : DT → List Nat
  | .alt i _ _ _ r => i :: r.heads
  | _ => []
def DT.depth : DT → Nat
  | .fl _ t => t.depth + 1
  | .alt _ _ _ t _ => t.depth + 1
  | _ => 0
structure RA where
  sched : DT
  held : Bool
  opens : List (Nat × Nat)    -- ahead of this operation this box is opened
  closes : List (Nat × Nat)   -- behind this operation this box is closed
  join : Option SS
def openX (l : List (Nat × Nat)) (i : Nat) (st : St) (V : View) (C : St → View → Prop) : Prop :=
  match l with
  | [] => C st V
  | (j, b) :: r => match j == i with
    | true => match st.boxes[b]? with
      | some ⟨v, blk, t, some cs⟩ => V.see blk = none → openX r i { st with boxes := st.boxes.set b ⟨v + 1, blk, t, none⟩ } (V.put blk (.cells ⟨cs⟩ t (0, 0))) C
      | _ => False
    | false => openX r i st V C
def closeX (P : Program) (l : List (Nat × Nat)) (i : Nat) (st : St) (V : View) (C : St → View → Prop) : Prop :=
  match l with
  | [] => C st V
  | (j, b) :: r => match j == i with
    | true => match st.boxes[b]? with
      | some ⟨v, blk, t, none⟩ => match kinds P 6 t with
        | some ks => exTy ks fun cs => V.see blk = some (.cells ⟨cs⟩ t (0, 0)) ∧ closeX P r i { st with boxes := st.boxes.set b ⟨v + 1, blk, t, some cs⟩ } (V.hide blk) C
        | none => False
      | _ => False
    | false => closeX P r i st V C
/-- For each operation: what it waits for, as bits; the last one first. -/
def wtab : List Oper → Nat → List Nat → List Nat
  | [], _, acc => acc
  | o :: os, k, acc => wtab os (k + 1) (o.after.toList.foldl (fun m e => match Region.binds .any e with
    | true => Nat.lor (Nat.lor m (2 ^ e.on)) (match Nat.blt e.on k with
      | true => acc.getD (k - 1 - e.on) 0
      | false => 0)
    | false => m) 0 :: acc)
/-- Does operation j wait for operation i? -/
def waits (ops : Array Oper) (_ j i : Nat) : Bool := match Nat.blt j ops.size with
  | true => Nat.testBit ((wtab ops.toList 0 []).getD (ops.size - 1 - j) 0) i
  | false => false
/-- Is there a load that operation j does not wait for? -/
def early0 (P : Program) (ops : Array Oper) (j : Nat) : Bool :=
  (List.range ops.size).any fun i => (match ops[i]? with
    | some o => isLoad P o.op && i != j
    | none => false) && !waits ops ops.size j i
/-- .. or may such an operation come behind it? -/
def early (P : Program) (ops : Array Oper) (j : Nat) : Bool :=
  early0 P ops j || (List.range ops.size).any fun k => (match ops[k]? with
    | some o => !floats P o.op && k != j
    | none => false) && !waits ops ops.size j k && early0 P ops k
/-- Boxes whose number is not told have turned nowhere. -/
def sameB (ok : List Nat) : Nat → List Box → List Box → Bool
  | _, [], _ => true
  | i, b :: l, b' :: l' => (b.ver == b'.ver || ok.contains i) && sameB ok (i + 1) l l'
  | _, _, _ => false
/-- In a region that draws its order: the boxes at its start. -/
abbrev Dr := Option (List Box)
def drLoad (P : Program) (dr : Dr) (op : Op) (bx : List Box) : Bool :=
  match dr, isLoad P op with
  | some bx0, true => sameB [] 0 bx0 bx && bx.length == bx0.length
  | _, _ => true
/-- Behind a step, in a region that draws: what other orders would read is as it was. -/
def afterX (fl ea held : Bool) (VS : Option View) (dr : Dr) (st' : St) (V' : View) (C : St → View → Prop) : Prop :=
  match dr, fl, ea with
  | some bx0, false, true => match sameB [] 0 bx0 st'.boxes with
    | true => match held, VS with
      | true, some S => S.Le V' ∧ C st' V'
      | false, _ => C st' V'
      | _, _ => False
    | false => False
  | _, _, _ => C st' V'
/-- Of what type the j-th part of a tuple is taken. -/
def partT (d j : Nat) : List Oper → Option TypeId
  | [] => none
  | o :: r => match o.op with
    | .extract (.tmp t) i => match t == d && i == j with
      | true => some o.type
      | false => partT d j r
    | _ => partT d j r
def partK (P : Program) (ops : Array Oper) (dst : Option Tmp) (j : Nat) : VK := match dst with
  | some d => match partT d j ops.toList with
    | some t => (vk P t).getD (.one .val)
    | none => .one .val
  | none => .one .val
/-- The entry at which a walk over a map stands. -/
def entryM (V : View) (r : Nat) (C : Value → Value → Prop) : Prop :=
  ∃ b s x l es stamp e, V.see r = some (.mapIter (some b) s x l) ∧ V.see b = some (.map es l) ∧ x.back? = some stamp ∧ es.find? (fun e => e.born == stamp) = some e ∧ C e.key e.val
def opE [DrK] (P : Program) (wr : Bool) (ops : Array Oper) (VS : Option View) (bx : List Box) (o : Oper) (ρ : Operand → Option RV) (V : View) (C : Option RV → List Box → View → Prop) : Prop :=
  match o.op with
  | .entry it => match ρ it with
    | some (.v (.pointer (some ⟨r, 0, none⟩))) => entryM V r fun k v => exV (partK P ops o.dst 0) fun k' => exV (partK P ops o.dst 1) fun v' => k = k' ∧ v = v' ∧ C (some (.v (.tuple ⟨[k', v']⟩))) bx V
    | _ => False
  | op => opX P wr VS bx op o.type ρ V C
def opStep [DrK] (P : Program) (wr : Bool) (ops : Array Oper) (ra : RA) (VS : Option View) (dr : Dr) (ea : Bool) (i : Nat) (o : Oper) (ctx : List (Nat × Bool)) (st : St) (V : View) (C : St → View → Prop) : Prop :=
  openX ra.opens i st V fun st V =>
  match drLoad P dr o.op st.boxes with
  | false => False
  | true =>
  opE P wr ops VS st.boxes o (st.rv ctx) V fun r bx V' =>
  closeX P ra.closes i (({ st with boxes := bx } : St).leave o ctx r) V' fun st' V' =>
  afterX (floats P o.op) ea ra.held VS dr st' V' C
def pickX (st : St) (ctx : List (Nat × Bool)) (tag : Nat) (g : Bool) (a b : Operand) : Option RV :=
  match memC st.known tag true, memC st.known tag false with
  | true, _ => st.rv ctx a
  | _, true => st.rv ctx b
  | _, _ => match st.rv (ctx ++ [(tag, true)]) a, st.rv (ctx ++ [(tag, false)]) b with
    | some x, some y => iteV g x y
    | _, _ => none
def stepX [DrK] (P : Program) (wr : Bool) (ops : Array Oper) (ra : RA) (VS : Option View) (dr : Dr) (ea : Bool) (i : Nat) (o : Oper) (st : St) (V : View) (C : St → View → Prop) : Prop :=
  match (match o.guard with
    | none => some (some [])
    | some (j, want) => match (ops[j]?).bind (·.dst) with
      | some d => match st.slots[d]? with
        | some (_, some ⟨cs, some tag, .v (.bool _)⟩) => some (condRes st.known (cs ++ [(tag, want)]))
        | some (_, some ⟨[], _, .v (.tuple _)⟩) => some none
        | _ => none
      | none => none) with
  | none => False
  | some none => C (st.leave o [] (some (.v undef))) V   -- it is left out
  | some (some ctx) => match o.op with
    | .move (.tmp t) => match st.entry ctx t with
      | some ⟨_, none, .v (.bool g)⟩ => C (st.leave o ctx (some (.v (.bool g)))) V
      | some e => C (st.set o.dst (some ⟨ctx, e.tag, e.rv⟩)) V
      | none => C (st.set o.dst none) V
    | .pick c a b => match c with
      | .tmp t => match st.entry ctx t with
        | some ⟨_, some tag, .v (.bool g)⟩ => match pickX st ctx tag g a b with
          | some r => C (st.leave o ctx (some r)) V
          | none => False
        | _ => False
      | _ => False
    | op => match ctx with
      | [] => opStep P wr ops ra VS dr ea i o [] st V C
      | ctx => match (match drLoad P dr op st.boxes with
          | true => pureX P st.boxes op (st.rv ctx)
          | false => none) with
        | some r => C (st.leave o ctx (some r)) V
        | none => brs st.gam ctx st.known (fun kn => opStep P wr ops ra VS dr ea i o [] { st with known := kn } V C) (fun kn => C (({ st with known := kn } : St).leave o [] (some (.v undef))) V)
noncomputable def runX [DrK] (P : Program) (wr : Bool) (ops : Array Oper) (ra : RA) (VS : Option View) (dr : Dr) : List Nat → St → View → (St → View → Prop) → Prop
  | [], st, V, C => C st V
  | i :: r, st, V, C => match ops[i]? with
    | some o => st.force fun st => stepX P wr ops ra VS dr false i o st V fun st V => runX P wr ops ra VS dr r st V C
    | none => False
/-- Behind a region: what hangs on a condition is forgotten. -/
def endE : List (Nat × Option SE) → List (Nat × Option SE) → List (Nat × Option SE)
  | (v0, e0) :: l0, (v, e) :: l => (v, match v == v0 with
      | true => e0
      | false => match e with
        | some ⟨[], _, rv⟩ => some ⟨[], none, rv⟩
        | _ => none) :: endE l0 l
  | _, _ => []
def St.ended (st0 st : St) : St := ⟨endE st0.slots st.slots, st.boxes, [], []⟩

/-- May the operations be taken in this order, those that float ahead of the others? 'dead': one has come that waits for all loads. -/
def drFrom (P : Program) (ops : Array Oper) : DT → Bool → Array Bool → Bool → Bool
  | .done, true, listed, _ => (Region.ready .any ops listed).isEmpty
  | .done, false, _, _ => false
  | .no, top, _, _ => !top
  | .fl i t, true, listed, dead => match ops[i]? with
    | some o => floats P o.op && Region.free .any ops listed i && (Region.ready .any ops listed).contains i && !(isLoad P o.op && dead) && drFrom P ops t true (listed.setIfInBounds i true) dead
    | none => false
  | .fl _ _, false, _, _ => false
  | .alt i e _ t r, top, listed, dead => match ops[i]? with
    | some o => !floats P o.op && e == early P ops i && (!top || Region.ready .any ops listed == i :: r.heads) && !(early P ops i && dead) && drFrom P ops t true (listed.setIfInBounds i true) (dead || !early P ops i) &&
        (r.heads.isEmpty || r.depth == t.depth + 1) && drFrom P ops r false listed dead
    | none => false
def drOk (P : Program) (ops : Array Oper) (sched : DT) : Prop := (match Region.noSelect ops && drFrom P ops sched true (Array.replicate ops.size false) false && sched.depth == ops.size with
  | true => True
  | false => False)
def andT (r : DT) (A B : Prop) : Prop := match r with
  | .no => A
  | _ => A ∧ B
/-- More may be held from here on. -/
def growT (g : Bool) (VS : Option View) (V : View) (C : Option View → Prop) : Prop := match g, VS with
  | true, some S => ∃ S' : View, S.Le S' ∧ S'.Le V ∧ C (some S')
  | _, VS => C VS
noncomputable def runT [DrK] (P : Program) (wr : Bool) (ops : Array Oper) (ra : RA) (dr : Dr) : Option View → DT → St → View → (St → View → Prop) → Prop
  | _, .done, st, V, C => C st V
  | _, .no, _, _, _ => True
  | VS, .fl i t, st, V, C => match ops[i]? with
    | some o => st.force fun st => stepX P wr ops ra VS dr false i o st V fun st V => runT P wr ops ra dr VS t st V C
    | none => False
  | VS, .alt i e g t r, st, V, C => andT r (match ops[i]? with
    | some o => st.force fun st => stepX P wr ops ra VS dr e i o st V fun st V => growT (g && ra.held) VS V fun VS => runT P wr ops ra dr VS t st V C
    | none => False) (runT P wr ops ra dr VS r st V C)

/-! ### code -/
@[reducible] def CurP : List K → Type
  | [] => View → Prop
  | k :: ks => k.ty → CurP ks
def unc : (ks : List K) → CurP ks → Ty ks → View → Prop
  | [], f, _, V => f V
  | _ :: ks, f, (x, s), V => unc ks (f x) s V
def cur : (ks : List K) → (Ty ks → View → Prop) → CurP ks
  | [], f => f ()
  | _ :: ks, f => fun x => cur ks fun s => f (x, s)
@[reducible] def CurF (R : Type) : List K → Type
  | [] => View → R
  | k :: ks => k.ty → CurF R ks
def uncF {R : Type} : (ks : List K) → CurF R ks → Ty ks → View → R
  | [], f, _, V => f V
  | _ :: ks, f, (x, s), V => uncF ks (f x) s V
def curF {R : Type} : (ks : List K) → (Ty ks → View → R) → CurF R ks
  | [], f => f ()
  | _ :: ks, f => fun x => curF ks fun s => f (x, s)
/-- Ways meet: what they come to with is J's. -/
def joinP (ks : List K) (body : CurP ks → Prop) (k : CurP ks) : Prop := ∃ J : Ty ks → View → Prop, body (cur ks J) ∧ ∀ s V, J s V → unc ks k s V
/-- Rounds, until one leaves. -/
def loopP (ks : List K) (F : CurF (CurP ks → Prop) ks) (s : Ty ks) (V : View) : Prop :=
  ∀ Q : Ty ks → View → Prop, (∀ s V, (∃ R : Ty ks → View → Prop, (∀ s' V', R s' V' → Q s' V') ∧ uncF ks F s V (cur ks R)) → Q s V) → Q s V

def boxKs : List (Nat × List K) → List K
  | [] => []
  | (_, ks) :: r => ks ++ boxKs r
def SS.ks (ss : SS) : List K := ss.slots.map (·.2) ++ boxKs ss.boxes
/-- The values of a state; its put back. -/
def ups : (ks : List K) → Ty ks → List Value
  | [], _ => []
  | k :: ks, (x, s) => k.up x :: ups ks s
def dns : (ks : List K) → List Value → Option (Ty ks)
  | [], [] => some ()
  | k :: ks, v :: vs => match k.dn v, dns ks vs with
    | some x, some s => some (x, s)
    | _, _ => none
  | _, _ => none
def readS (st : St) : List (Nat × K) → Option (List Value)
  | [] => some []
  | (t, _) :: r => match st.slots[t]?, readS st r with
    | some (_, some ⟨[], _, .v x⟩), some l => some (x :: l)
    | _, _ => none
def readB (st : St) : List (Nat × List K) → Option (List Value)
  | [] => some []
  | (i, ks) :: r => match st.boxes[i]?, readB st r with
    | some ⟨_, _, _, some cs⟩, some l => if cs.length = ks.length then some (cs ++ l) else none
    | _, _ => none
def SS.read (ss : SS) (st : St) : Option (Ty ss.ks) :=
  match readS st ss.slots, readB st ss.boxes with
  | some a, some b => dns ss.ks (a ++ b)
  | _, _ => none
def St.bump (st : St) (t : Nat) (e : Option SE) : St := st.set (some t) e
def killS (st : St) : List Nat → St
  | [] => st
  | t :: r => killS (st.bump t none) r
def writeS (st : St) : List (Nat × K) → List Value → St
  | [], _ => st
  | (t, _) :: r, v :: vs => writeS (st.bump t (some ⟨[], none, .v v⟩)) r vs
  | _ :: _, [] => st
def writeB (st : St) : List (Nat × List K) → List Value → St
  | [], _ => st
  | (i, ks) :: r, vs => writeB { st with boxes := boxSet st.boxes i (vs.take ks.length) } r (vs.drop ks.length)
def SS.write (ss : SS) (st : St) (s : Ty ss.ks) : St :=
  let vs := ups ss.ks s
  writeB (writeS (killS st ss.kill) ss.slots (vs.take ss.slots.length)) ss.boxes (vs.drop ss.slots.length)
noncomputable def killK : List Nat → St → (St → Prop) → Prop
  | [], st, k => k st
  | t :: r, st, k => (st.bump t none).force fun st => killK r st k
theorem killK_eq [DrK] : ∀ (l : List Nat) (st : St) (k : St → Prop), killK l st k = k (killS st l)
  | [], _, _ => rfl
  | t :: r, st, k => by simp only [killK, killS, St.force_eq, killK_eq r]
noncomputable def writeSK : List (Nat × K) → List Value → St → (St → Prop) → Prop
  | [], _, st, k => k st
  | (t, _) :: r, v :: vs, st, k => (st.bump t (some ⟨[], none, .v v⟩)).force fun st => writeSK r vs st k
  | _ :: _, [], st, k => k st
theorem writeSK_eq [DrK] : ∀ (l : List (Nat × K)) (vs : List Value) (st : St) (k : St → Prop), writeSK l vs st k = k (writeS st l vs)
  | [], _, _, _ => rfl
  | (t, _) :: r, v :: vs, st, k => by simp only [writeSK, writeS, St.force_eq, writeSK_eq r]
  | _ :: _, [], _, _ => rfl
noncomputable def SS.writeK (ss : SS) (st : St) (s : Ty ss.ks) (k : St → Prop) : Prop :=
  st.force fun st => killK ss.kill st fun st => writeSK ss.slots ((ups ss.ks s).take ss.slots.length) st fun st => (writeB st ss.boxes ((ups ss.ks s).drop ss.slots.length)).force k
theorem SS.writeK_eq [DrK] (ss : SS) (st : St) (s : Ty ss.ks) (k : St → Prop) : ss.writeK st s k = k (ss.write st s) := by
  simp only [SS.writeK, SS.write, St.force_eq, killK_eq, writeSK_eq]
/-- What has a slot's, a box's number that is not told has turned nowhere. -/
def sameS (ok : List Nat) : Nat → List (Nat × Option SE) → List (Nat × Option SE) → Bool
  | _, [], [] => true
  | t, (v, _) :: l, (v', _) :: l' => (v == v' || ok.contains t) && sameS ok (t + 1) l l'
  | _, _, _ => false
def SS.same (ss : SS) (st st' : St) : Bool :=
  sameS (ss.kill ++ ss.slots.map (·.1)) 0 st.slots st'.slots && sameB (ss.boxes.map (·.1)) 0 st.boxes st'.boxes
def SS.again (ss : SS) (st st' : St) (V : View) (J : CurP ss.ks) : Prop :=
  match ss.same st st', ss.read st' with
  | true, some s => unc ss.ks J s V
  | _, _ => False

/-! A join behind a region that makes boxes: where each new one is held, what it is. -/
structure New where
  slot : Nat
  ty : TypeId
  ks : List K
def newKs : List New → List K
  | [] => []
  | n :: r => n.ks ++ newKs r
def joinTy : (a b : List K) → Ty a → Ty b → Ty (a ++ b)
  | [], _, _, y => y
  | _ :: a, b, (x, s), y => (x, joinTy a b s y)
def fstTy : (a b : List K) → Ty (a ++ b) → Ty a
  | [], _, _ => ()
  | _ :: a, b, (x, s) => (x, fstTy a b s)
def sndTy : (a b : List K) → Ty (a ++ b) → Ty b
  | [], _, s => s
  | _ :: a, b, (_, s) => sndTy a b s
/-- What the new boxes hold, and their places. -/
def readN (st' : St) (n0 : Nat) : List New → Option (List Value × List Nat)
  | [] => some ([], [])
  | n :: r => match st'.slots[n.slot]?, readN st' n0 r with
    | some (_, some ⟨[], _, .box i 0⟩), some (l, is) => match st'.boxes[i]? with
      | some ⟨_, _, ty, some cs⟩ => match Nat.ble n0 i && ty == n.ty && cs.length == n.ks.length && !is.contains i with
        | true => some (cs ++ l, i :: is)
        | false => none
      | _ => none
    | _, _ => none
def againN (ss : SS) (news : List New) (st st' : St) (V : View) (J : CurP (ss.ks ++ newKs news)) : Prop :=
  match ss.same st st', ss.read st', readN st' st.boxes.length news with
  | true, some s, some (l, _) => match dns (newKs news) l with
    | some s2 => unc (ss.ks ++ newKs news) J (joinTy ss.ks (newKs news) s s2) V
    | none => False
  | _, _, _ => False
noncomputable def addN : List New → List Value → St → (St → Prop) → Prop
  | [], _, st, k => k st
  | n :: r, vs, st, k => ∀ b : Nat, (({ st.bump n.slot (some ⟨[], none, .box st.boxes.length 0⟩) with boxes := st.boxes ++ [⟨0, b, n.ty, some (vs.take n.ks.length)⟩] } : St)).force fun st => addN r (vs.drop n.ks.length) st k
noncomputable def joinN (j : Option SS) (news : List New) (st : St) (body : (St → View → Prop) → Prop) (k : St → View → Prop) : Prop :=
  match j with
  | none => False
  | some ss => joinP (ss.ks ++ newKs news) (fun J => body fun st' V' => againN ss news st st' V' J) (cur (ss.ks ++ newKs news) fun s V' => ss.writeK st (fstTy ss.ks (newKs news) s) fun st => addN news (ups (newKs news) (sndTy ss.ks (newKs news) s)) st fun st => k st V')
inductive Ex where
  | normal | exit (id : Nat) | ret
inductive AC where
  | leaf
  | reg (ra : RA)
  | regn (ra : RA) (news : List New)
  | seq (a b : AC)
  | cond (j : Option SS) (a b : AC)
  | block (j : Option SS) (a : AC)
  | loop (ss : SS) (a : AC)
/-- With a join: what ends normally goes on behind it. -/
noncomputable def joinX (j : Option SS) (st : St) (body : (St → View → Prop) → Prop) (k : St → View → Prop) : Prop :=
  match j with
  | none => body k
  | some ss => joinP ss.ks (fun J => body fun st' V' => ss.again st st' V' J) (cur ss.ks fun s V' => ss.writeK st s fun st => k st V')
noncomputable def X [DrK] (P : Program) (wr : Bool) : AC → Code → St → View → (Ex → St → View → Prop) → Prop
  | .leaf, .skip, st, V, C => C .normal st V
  | .leaf, .exit id, st, V, C => C (.exit id) st V
  | .leaf, .ret, st, V, C => C .ret st V
  | .reg ra, .region _ ops draw, st, V, C => joinX ra.join st (fun K => match draw, ra.held with
      | false, _ => runX P wr ops ra none none (List.range ops.size) st V fun st' V' => (st.ended st').force fun s => K s V'
      | true, true => drOk P ops ra.sched ∧ ∃ S : View, S.Le V ∧ runT P wr ops ra (some st.boxes) (some S) ra.sched st V fun st' V' => (st.ended st').force fun s => K s V'
      | true, false => drOk P ops ra.sched ∧ runT P wr ops ra (some st.boxes) (some V.nil) ra.sched st V fun st' V' => (st.ended st').force fun s => K s V') (C .normal)
  | .regn ra news, .region _ ops draw, st, V, C => joinN ra.join news st (fun K => match draw, ra.held with
      | false, _ => runX P wr ops ra none none (List.range ops.size) st V fun st' V' => (st.ended st').force fun s => K s V'
      | true, true => drOk P ops ra.sched ∧ ∃ S : View, S.Le V ∧ runT P wr ops ra (some st.boxes) (some S) ra.sched st V fun st' V' => (st.ended st').force fun s => K s V'
      | true, false => drOk P ops ra.sched ∧ runT P wr ops ra (some st.boxes) (some V.nil) ra.sched st V fun st' V' => (st.ended st').force fun s => K s V') (C .normal)
  | .seq a b, .seq x y, st, V, C => X P wr a x st V fun e st' V' => match e with
      | .normal => X P wr b y st' V' C
      | e => C e st' V'
  | .cond j a b, .cond c x y, st, V, C => match st.rv [] c with
      | some (.v (.bool g)) => joinX j st (fun K => br g (X P wr a x st V fun e st' V' => match e with
          | .normal => K st' V'
          | e => C e st' V') (X P wr b y st V fun e st' V' => match e with
          | .normal => K st' V'
          | e => C e st' V')) (C .normal)
      | _ => False
  | .block j a, .block id x, st, V, C => joinX j st (fun K => X P wr a x st V fun e st' V' => match e with
      | .normal => K st' V'
      | .exit i => match i == id with
        | true => K st' V'
        | false => C (.exit i) st' V'
      | .ret => C .ret st' V') (C .normal)
  | .loop ss a, .loop x, st, V, C => match ss.read st with
      | some s => loopP ss.ks (curF ss.ks fun s V again => ss.writeK st s fun st => X P wr a x st V fun e st' V' => match e with
          | .normal => ss.again st st' V' again
          | e => C e st' V') s V
      | none => False
  | _, _, _, _, _ => False
def resX (P : Program) (st : St) (V : View) : List ResultVar → (List Value → View → Prop) → Prop
  | [], C => C [] V
  | .tmp t :: r, C => match st.slots[t]? with
    | some (_, some ⟨[], _, rv⟩) => match toV st.boxes rv with
      | some v => resX P st V r fun vs V => C (v :: vs) V
      | none => False
    | _ => False
  | .cell t ty :: r, C => match st.slots[t]? with
    | some (_, some ⟨[], _, .box i off⟩) => match st.boxes[i]? with
      | some ⟨_, _, _, some cs⟩ => match partX P ty cs off with
        | some v => resX P st V r fun vs V => C (v :: vs) V
        | none => False
      | some ⟨_, b, _, none⟩ => match vk P ty with
        | some k => ldV V ⟨b, off, none⟩ k fun v => resX P st V r fun vs V => C (v :: vs) V
        | none => False
      | none => False
    | _ => False
def startX (args : List Value) (n : Nat) : St :=
  ⟨args.map (fun v => (0, SE.val v)) ++ List.replicate (n - args.length) (0, none), [], [], []⟩
noncomputable def XF [DrK] (P : Program) (wr : Bool) (fn : Func) (ac : AC) (args : List Value) (V : View) (C : Value → View → Prop) : Prop :=
  match fn.body with
  | some c => X P wr ac c (startX args fn.ntmps) V fun e st V' => match e with
      | .exit _ => False
      | _ => resX P st V' fn.results.toList fun vs V' => C (match vs with
        | [v] => v
        | vs => .tuple ⟨vs⟩) V'
  | none => False
end Go.Proofs.YtgkmcnafkhdlnaaGreat
