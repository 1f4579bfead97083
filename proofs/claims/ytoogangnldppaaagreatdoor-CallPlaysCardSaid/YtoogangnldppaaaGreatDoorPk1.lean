/- Texts joined: Rules, Rep, Row, Data, Num, Gen, Grow, ObP1. -/
import Derived.Test.YtoogangnldppaaaGreatDoorMSoundC
import Derived.Test.YtoogangnldppaaaGreatDoorChecked
import Derived.ChangeStays
import Derived.ChangeBook
import Derived.ProofKit
import Derived.HandedShaped
import Derived.RowKit
import Derived.ChangeShapes
import Derived.WideShapes
import Derived.Below
import Derived.KernelRfl
set_option linter.unusedVariables false
/- Rules for what the executor asks. -/
namespace Go.Proofs.YtoogangnldppaaaGreatDoor
open Go
theorem nZ {ks:List K} {F:zJ (c7 ks→Prop) ks} {s:Ty ks} {V:View} (I:Ty ks→View→Prop) (m:Ty ks→View→Nat) (h0:I s V)
  (step:∀s V,I s V→AW ks F s V (cur ks fun s' V' =>I s' V' ∧m s' V' <m s V)):aG ks F s V:=by
 intro Q hQ
 have key:∀n s V,m s V=n→I s V→Q s V:=by
  intro n
  induction n using Nat.strongRecOn with
  | _ n ih=>
    intro s V hm hi
    exact hQ s V ⟨_,fun s' V' h=>ih _ (by rw[←hm];exact h.2) s' V' rfl h.1,step s V hi⟩
 exact key _ s V rfl h0
theorem bh [DrK] {k:K} {F:k.ty→View→(k.ty→View→Prop)→Prop} {x:k.ty} {V:View} (I:k.ty→View→Prop) (m:k.ty→View→Nat) (h0:I x V)
  (step:∀x V,I x V→F x V fun x' V' =>I x' V' ∧m x' V' <m x V):aG [k] F (x,()) V:=
 nZ (fun s V=>I s.1 V) (fun s V=>m s.1 V) h0 fun s V h=>step s.1 V h
theorem di [DrK] {k l:K} {F:k.ty→l.ty→View→(k.ty→l.ty→View→Prop)→Prop} {x:k.ty} {y:l.ty} {V:View} (I:k.ty→l.ty→View→Prop) (m:k.ty→l.ty→View→Nat) (h0:I x y V)
  (step:∀x y V,I x y V→F x y V fun x' y' V' =>I x' y' V' ∧m x' y' V' <m x y V):aG [k,l] F (x,y,()) V:=
 nZ (fun s V=>I s.1 s.2.1 V) (fun s V=>m s.1 s.2.1 V) h0 fun s V h=>step s.1 s.2.1 V h
theorem sJ [DrK] {k l n:K} {F:k.ty→l.ty→n.ty→View→(k.ty→l.ty→n.ty→View→Prop)→Prop} {x:k.ty} {y:l.ty} {z:n.ty} {V:View} (I:k.ty→l.ty→n.ty→View→Prop) (m:k.ty→l.ty→n.ty→View→Nat) (h0:I x y z V)
  (step:∀x y z V,I x y z V→F x y z V fun x' y' z' V' =>I x' y' z' V' ∧m x' y' z' V' <m x y z V):aG [k,l,n] F (x,y,z,()) V:=
 nZ (fun s V=>I s.1 s.2.1 s.2.2.1 V) (fun s V=>m s.1 s.2.1 s.2.2.1 V) h0 fun s V h=>step s.1 s.2.1 s.2.2.1 V h
@[simp] theorem Nj (A B : Prop) : br true A B = A := rfl
@[simp] theorem vE (A B : Prop) : br false A B = B := rfl
theorem aa {g:Bool} {A B:Prop} (h1:g=true→A) (h2:g=false→B):br g A B:=by
 cases g
 ·exact h2 rfl
 ·exact h1 rfl
theorem ai {ks:List K} {body:c7 ks→Prop} {k:c7 ks} (J:Ty ks→View→Prop) (h:body (cur ks J)) (h2:∀s V,J s V→unc ks k s V):aA ks body k:=⟨J,h,h2⟩
theorem af.at [DrK] {P:Program} {f:FuncId} {args:Array Value} {V:View} {K:Value→View→Prop} (h:af P f args V K) {w:World} (hw:V.In w):
  Calls P f args w fun e w' =>∃r V',e= .returned r∧V'.In w' ∧Fr V w V' w' ∧K r V' :=h.2 w hw
theorem af.Bm {P:Program} {f:FuncId} {args:Array Value} {U V:View} {K:Value→View→Prop} (hU:U.Le V) (h:af P f args U K):
  af P f args V fun r V' =>∃U',K r U' ∧U'.Le V' ∧V.size≤V'.size∧(∀i o,U.see i=none→V.see i=some o→V'.see i=some o∧U'.see i=none):=by
 refine⟨h.1,fun w hw=>(h.2 w (hU.In hw)).mono fun e w' ⟨r,U',he,hi,hf,hr⟩=> ?_⟩
 have hlt:∀i o,V.see i=some o→i<w.heap.size:=fun i o ho=>Nat.lt_of_lt_of_le (V.lt i o ho) hw.size
 let V' :View:=⟨max U'.size V.size,fun i=>match U'.see i with
  | some o=>some o
  | none=>match U.see i with
    | some _=>none
    | none=>V.see i,U'.out,fun i o ho=>by
      cases h1:U'.see i with
      | some o1=>have:=U'.lt i o1 h1;omega
      | none=>
        simp only [h1]at ho
        cases h2:U.see i with
        | some o2=>simp [h2]at ho
        | none=>simp only [h2]at ho;have:=V.lt i o ho;omega⟩
 refine⟨r,V',he,⟨?_, ?_,hi.out⟩,⟨hf.size, ?_,hf.drawn⟩,U',hr,⟨Nat.le_max_left _ _, ?_,rfl⟩,Nat.le_max_right _ _, ?_⟩
 ·have h1:=hi.size;have h2:=hw.size;have h3:=hf.size
  show max U'.size V.size≤_
  omega
 ·intro i o ho
  change (match U'.see i with
   | some o=>some o
   | none=>match U.see i with
     | some _=>none
     | none=>V.see i)=some o at ho
  cases h1:U'.see i with
  | some o1=>rw[h1]at ho;exact hi.see i o (by rw[h1];exact ho)
  | none=>
    rw[h1]at ho
    cases h2:U.see i with
    | some o2=>rw[h2]at ho;cases ho
    | none=>
      rw[h2]at ho
      have hl:=hlt i o ho
      rw[(hf.hid i hl h2).2]
      exact hw.see i o ho
 ·intro i hl hn
  have h2:U.see i=none:=by
   cases h2:U.see i with
   | none=>rfl
   | some o=>rw[hU.see i o h2]at hn;cases hn
  have h3:=hf.hid i hl h2
  refine⟨?_,h3.2⟩
  show(match U'.see i with
   | some o=>some o
   | none=>match U.see i with
     | some _=>none
     | none=>V.see i)=none
  rw[h3.1,h2];exact hn
 ·intro i o ho
  show(match U'.see i with
   | some o=>some o
   | none=>match U.see i with
     | some _=>none
     | none=>V.see i)=some o
  rw[ho]
 ·intro i o h2 ho
  have h3:=hf.hid i (hlt i o ho) h2
  refine⟨?_,h3.1⟩
  show(match U'.see i with
   | some o=>some o
   | none=>match U.see i with
     | some _=>none
     | none=>V.see i)=some o
  rw[h3.1,h2];exact ho
theorem af.frame {P:Program} {f:FuncId} {args:Array Value} {U V:View} {K:Value→View→Prop} (hU:U.Le V) (h:af P f args U K):
  af P f args V fun r V' =>∃U',K r U' ∧U'.Le V' ∧(∀i o,U.see i=none→V.see i=some o→V'.see i=some o∧U'.see i=none):=
 (af.Bm hU h).mono fun _ _ ⟨U',a,b,_,c⟩=>⟨U',a,b,c⟩
theorem af.xK {P:Program} {f:FuncId} {args:Array Value} {U V:View} {K:Value→View→Prop} (hU:U.Le V) (h:af P f args U fun r U' =>K r U' ∧U.Le U'):
  af P f args V fun r V' =>∃U',K r U' ∧U.Le U' ∧U'.Le V' ∧V.Le V' ∧(∀i o,U.see i=none→V.see i=some o→U'.see i=none):=by
 refine(af.Bm hU h).mono ?_
 rintro r V' ⟨U',⟨hk,hle⟩,h2,h3,h4⟩
 refine⟨U',hk,hle,h2,⟨h3,fun i o ho=> ?_,h2.out.trans (hle.out.trans hU.out.symm)⟩,fun i o h5 h6=>(h4 i o h5 h6).2⟩
 cases hs:U.see i with
 | none=>exact(h4 i o hs ho).1
 | some o' =>
   have e:=hU.see i o' hs
   rw[ho]at e
   cases e
   exact h2.see _ _ (hle.see _ _ hs)
theorem Addr.add_zero (a:Addr):a.add 0=a:=by simp [Addr.add]
theorem Addr.add_add (a:Addr) (m n:Nat):(a.add m).add n=a.add (m+n):=by
 unfold Addr.add
 by_cases h:m=0<;>by_cases k:n=0<;>simp [h,k]<;>omega
theorem Addr.jg (a:Addr) (n:Nat):(a.add n).block=a.block:=by unfold Addr.add;split<;>rfl
theorem cu (a:Option Addr):Option.map (fun(x:Addr)=>Addr.add x 0) a=a:=by cases a<;>simp [Addr.add_zero]
theorem aV {V V' :View} (h:V.Le V') {a:Addr} {vs:List Value} (hc:aq V a vs):aq V' a vs:=fun j v hj=>h.cell (hc j v hj)
theorem bT {V:View} {a:Addr} {v:Value} :aq V a [v]↔V.cell? a=some v:=by
 constructor
 ·intro h;have:=h 0 v rfl;rwa [Addr.add_zero]at this
 ·intro h j x hj
  cases j with
  | zero=>simp at hj;subst hj;rwa [Addr.add_zero]
  | succ j=>simp at hj
theorem qj {V:View} {a:Addr} {vs us:List Value} :aq V a (vs++us)↔aq V a vs∧aq V (a.add vs.length) us:=by
 constructor
 ·intro h
  refine⟨fun j v hj=>h j v (by rw[List.getElem?_append_left (List.getElem?_eq_some_iff.1 hj).1];exact hj),fun j v hj=> ?_⟩
  rw[Addr.add_add]
  exact h _ v (by rw[List.getElem?_append_right (by omega)];simpa using hj)
 ·rintro⟨h1,h2⟩ j v hj
  by_cases hl:j<vs.length
  ·rw[List.getElem?_append_left hl]at hj;exact h1 j v hj
  ·rw[List.getElem?_append_right (by omega)]at hj
   have:=h2 _ v hj
   rw[Addr.add_add]at this
   rwa [show vs.length+(j-vs.length)=j by omega]at this
theorem bX {V:View} {b:Nat} {cs:List Value} {e:TypeId} {f:Nat×Nat} (h:V.see b=some (.cells ⟨cs⟩ e f)) {i:Nat} {v:Value} (hv:cs[i]? =some v):
  V.cell? ⟨b,i,none⟩=some v:=by
 unfold View.cell?
 simp [h,hv]
theorem aW (b i n:Nat):(⟨b,i,none⟩:Addr).add n=⟨b,i+n,none⟩:=mP b i n
theorem cQ {V:View} {b:Nat} {cs:List Value} {e:TypeId} {f:Nat×Nat} (h:V.see b=some (.cells ⟨cs⟩ e f)) {i:Nat} {vs:List Value}
  (hv:∀j v,vs[j]? =some v→cs[i+j]? =some v):aq V ⟨b,i,none⟩ vs:=fun j v hj=>by
 rw[aW];exact bX h (hv j v hj)
class Rep (α:Type) where
 sz:Nat
 pos:0<sz
 rep:View→List Value→α→Prop
 len:∀ {V vs x},rep V vs x→vs.length=sz
 one:∀ {V vs x},rep V vs x→vs.all Value.oneCell' =true
 mono:∀ {V V' vs x},V.Le V' →rep V vs x→rep V' vs x
structure SlR {α:Type} [Rep α] (V:View) (s:Sl) (l:List α):Prop where
 n:s.n=l.length
 c:s.n≤s.c
 lim:s.n≤9223372036854775807
 get:∀i (h:i<l.length),∃ad vs,s.a=some ad∧aq V (ad.add (i*Rep.sz α)) vs∧Rep.rep V vs l[i]
theorem SlR.mono {α:Type} [Rep α] {V V' :View} {s:Sl} {l:List α} (hV:V.Le V') (h:SlR V s l):SlR V' s l:=
 ⟨h.n,h.c,h.lim,fun i hi=>let ⟨ad,vs,ha,hc,hr⟩:=h.get i hi;⟨ad,vs,ha,aV hV hc,Rep.mono hV hr⟩⟩
theorem SlR.nil {α:Type} [Rep α] (V:View) (a:Option Addr) (c:Nat):SlR (α:=α) V ⟨a,0,c⟩ []:=⟨rfl,Nat.zero_le _,Nat.zero_le _,fun _ h=>absurd h (by simp)⟩
instance:Rep Int where
 sz:=1
 pos:=Nat.one_pos
 rep _ vs x:=vs= [.int .i64 x]∧inI .i64 x
 len h:=by rw[h.1];rfl
 one h:=by rw[h.1];rfl
 mono _ h:=h
instance:Rep Bool where
 sz:=1
 pos:=Nat.one_pos
 rep _ vs x:=vs= [.bool x]
 len h:=by rw[h];rfl
 one h:=by rw[h];rfl
 mono _ h:=h
instance:Rep UInt8 where
 sz:=1
 pos:=Nat.one_pos
 rep _ vs x:=vs= [.int .u8 x.toNat]
 len h:=by rw[h];rfl
 one h:=by rw[h];rfl
 mono _ h:=h
instance:Rep ByteArray where
 sz:=1
 pos:=Nat.one_pos
 rep _ vs x:=vs= [.string x]∧x.size≤9223372036854775807
 len h:=by rw[h.1];rfl
 one h:=by rw[h.1];rfl
 mono _ h:=h
instance {α:Type} [Rep α]:Rep (List α) where
 sz:=1
 pos:=Nat.one_pos
 rep V vs x:=∃s:Sl,vs= [.slice s.a s.n s.c]∧SlR V s x
 len h:=by obtain⟨s,h,_⟩:=h;rw[h];rfl
 one h:=by obtain⟨s,h,_⟩:=h;rw[h];rfl
 mono hV h:=let ⟨s,h,k⟩:=h;⟨s,h,k.mono hV⟩
theorem SlR.ld {α:Type} [Rep α] {V:View} {s:Sl} {l:List α} (h:SlR V s l) {x:Int} (h0:0≤x) (h1:x<s.n):
  ∃ad vs,∃hx:x.toNat<l.length,s.a=some ad∧aq V (ad.add (x.toNat*Rep.sz α)) vs∧Rep.rep V vs l[x.toNat]:=by
 have hx:x.toNat<l.length:=by have:=h.n;omega
 obtain⟨ad,vs,h⟩:=h.get x.toNat hx
 exact⟨ad,vs,hx,h⟩
theorem SlR.int {V:View} {s:Sl} {l:List Int} (h:SlR V s l) {x:Int} (h0:0≤x) (h1:x<s.n):
  ∃ad,∃hx:x.toNat<l.length,s.a=some ad∧V.cell? (ad.add (x.toNat*1))=some (.int .i64 l[x.toNat])∧inI .i64 l[x.toNat]:=by
 obtain⟨ad,vs,hx,ha,hc,rfl,hi⟩:=h.ld h0 h1
 exact⟨ad,hx,ha,bT.1 hc,hi⟩
theorem SlR.bool {V:View} {s:Sl} {l:List Bool} (h:SlR V s l) {x:Int} (h0:0≤x) (h1:x<s.n):
  ∃ad,∃hx:x.toNat<l.length,s.a=some ad∧V.cell? (ad.add (x.toNat*1))=some (.bool l[x.toNat]):=by
 obtain⟨ad,vs,hx,ha,hc,rfl⟩:=h.ld h0 h1
 exact⟨ad,hx,ha,bT.1 hc⟩
theorem SlR.u8 {V:View} {s:Sl} {l:List UInt8} (h:SlR V s l) {x:Int} (h0:0≤x) (h1:x<s.n):
  ∃ad,∃hx:x.toNat<l.length,s.a=some ad∧V.cell? (ad.add (x.toNat*1))=some (.int .u8 l[x.toNat].toNat):=by
 obtain⟨ad,vs,hx,ha,hc,rfl⟩:=h.ld h0 h1
 exact⟨ad,hx,ha,bT.1 hc⟩
theorem SlR.str {V:View} {s:Sl} {l:List ByteArray} (h:SlR V s l) {x:Int} (h0:0≤x) (h1:x<s.n):
  ∃ad,∃hx:x.toNat<l.length,s.a=some ad∧V.cell? (ad.add (x.toNat*1))=some (.string l[x.toNat])∧l[x.toNat].size≤9223372036854775807:=by
 obtain⟨ad,vs,hx,ha,hc,rfl,hi⟩:=h.ld h0 h1
 exact⟨ad,hx,ha,bT.1 hc,hi⟩
theorem SlR.sub {α:Type} [Rep α] {V:View} {s:Sl} {l:List α} (h:SlR V s l) {i j:Nat} (hij:i≤j) (hj:j≤l.length):
  SlR V ⟨if s.c=i then s.a else s.a.map fun x=>x.add (i*Rep.sz α),j-i,s.c-i⟩ ((l.take j).drop i):=by
 have hn:=h.n;have hc:=h.c
 refine⟨by simp;omega,by show j-i≤s.c-i;omega,by have:=h.lim;show j-i≤_;omega,fun k hk=> ?_⟩
 have hk' :i+k<l.length:=by simp at hk;omega
 obtain⟨ad,vs,ha,hcs,hr⟩:=h.get (i+k) hk'
 have hne:s.c≠i:=by simp at hk;omega
 refine⟨ad.add (i*Rep.sz α),vs,by simp [hne,ha], ?_, ?_⟩
 ·rw[Addr.add_add, ←Nat.add_mul];exact hcs
 ·simpa using hr
theorem SlR.take {α:Type} [Rep α] {V:View} {s:Sl} {l:List α} (h:SlR V s l) {j:Nat} (hj:j≤l.length):SlR V ⟨s.a,j,s.c⟩ (l.take j):=by
 have:=h.sub (Nat.zero_le j) hj
 simpa [cu]using this
def View.minus (V:View) (x:Sl):View:=match x.a with
 | none=>V
 | some a=>V.bt a.block
theorem View.aj (V:View) (x:Sl):(V.minus x).Le V:=by
 unfold View.minus;split
 ·exact View.Le.refl V
 ·exact View.c6 V _
structure Buf (V:View) (x:Sl) (e:TypeId) (sz:Nat) (cs:List Value):Prop where
 len:cs.length=x.n*sz
 le:x.n≤x.c
 lim:x.n≤140737488355328
 own:(x.a=none∧x.c=0)∨∃r all,x.a=some ⟨r,0,none⟩∧V.see r=some (.cells ⟨all⟩ e (0,0))∧all.length=x.c*sz∧all.take (x.n*sz)=cs
theorem Buf.nil (V:View) (e:TypeId) (sz:Nat):Buf V ⟨none,0,0⟩ e sz []:=⟨by simp,Nat.le_refl _,Nat.zero_le _,.inl ⟨rfl,rfl⟩⟩
theorem Buf.mono {V V' :View} {x:Sl} {e:TypeId} {sz:Nat} {cs:List Value} (h:Buf V x e sz cs) (hV:V.Le V'):Buf V' x e sz cs:=
 ⟨h.len,h.le,h.lim,h.own.imp id fun⟨r,all,a,b,c⟩=>⟨r,all,a,hV.see _ _ b,c⟩⟩
theorem aN {V V' :View} (h:V.Le V') (x:Sl):(V.minus x).Le (V'.minus x):=by
 unfold View.minus;split
 ·exact h
 ·refine⟨h.size,fun i o ho=> ?_,h.out⟩
  unfold View.bt at*
  simp only at*
  split at ho
  ·cases ho
  ·rename_i hne;rw[if_neg hne];exact h.see i o ho
theorem Buf.row {V:View} {x:Sl} {e:TypeId} {sz:Nat} {cs:List Value} (h:Buf V x e sz cs):rowAt V x.a (x.n*sz) cs:=by
 rcases h.own with ⟨ha,hc⟩ | ⟨r,all,ha,hs,hl,ht⟩
 ·have h0:x.n=0:=by have:=h.le;omega
  rw[ha]
  show cs= []
  have:=h.len
  rw[h0]at this
  simpa using this
 ·rw[ha]
  refine⟨h.len,fun j v hj=> ?_⟩
  rw[aW]
  refine bX hs ?_
  rw[←ht]at hj
  rw[List.getElem?_take]at hj
  split at hj
  ·simpa using hj
  ·cases hj
theorem gv:∀(vs cs:List Value) (off:Nat),off+vs.length≤cs.length→bD cs off vs=cs.take off++vs++cs.drop (off+vs.length)
 | [],cs,off,_=>by simp [bD]
 | v::vs,cs,off,h=>by
   simp only [List.length_cons]at h
   rw[bD,gv vs _ _ (by simp;omega)]
   rw[List.drop_set_of_lt (by omega),List.take_add_one,List.getElem?_set_self (by omega),List.take_set,List.set_eq_of_length_le (by simp;omega)]
   simp [Nat.add_assoc,Nat.add_comm 1]
theorem uh (e:TypeId) (f:Nat×Nat) (vs cs:List Value) (off:Nat):setObj (.cells ⟨cs⟩ e f) off vs= .cells ⟨bD cs off vs⟩ e f:=kj e f vs cs off
theorem bn {V:View} {r off:Nat} {cs vs:List Value} {e:TypeId} {f:Nat×Nat} (h:V.see r=some (.cells ⟨cs⟩ e f)):V.sets ⟨r,off,none⟩ vs=V.put r (.cells ⟨bD cs off vs⟩ e f):=by
 unfold View.sets
 simp only [h,uh]
theorem bJ {V:View} {r off k:Nat} {cs:List Value} {e:TypeId} (h:V.see r=some (.cells ⟨cs⟩ e (0,0))) (hk:off+k≤cs.length):ay V ⟨r,off,none⟩ k:=
 ⟨rfl,⟨cs⟩,e,(0,0),h,by simpa using hk,fun j _ hf=>by simp at hf⟩
theorem ku {V:View} (r:Nat) (o:Obj):(V.bt r).Le (V.put r o):=
 ⟨Nat.le_max_left _ _,fun i o' h=>by
  unfold View.bt at h
  simp only at h
  split at h
  ·cases h
  ·rename_i hne;rw[View.aF V o hne];exact h,rfl⟩
theorem aU {V:View} (r:Nat) (o:Obj):(V.bt r).Le ((V.put r o).bt r):=
 ⟨Nat.le_max_left _ _,fun i o' h=>by
  unfold View.bt at*
  simp only at*
  split at h
  ·cases h
  ·rename_i hne;rw[if_neg hne,View.aF V o hne];exact h,rfl⟩
theorem jL {V:View} {e:TypeId} {sz bytes:Nat} {zero:List Value} {x:Sl} {y:Value} {C:Sl→View→Prop} {cs src:List Value} {m:Nat} (hz:zero.length=sz)
  (hb:Buf V x e sz cs) (hs:ve V sz zero y m src) (hl:src.length=m*sz) (h1:src.all Value.oneCell' =true) (hm:(x.n+m)*bytes≤140737488355328) (hm2:x.n+m≤140737488355328)
  (hC:∀s V',Buf V' s e sz (cs++src)→s.n=x.n+m→(V.minus x).Le (V'.minus s)→C s V'):apV V e sz bytes zero x y C:=by
 refine⟨cs,src,m,hb.row,hs,h1,hm,hm2,fun hle=> ?_,fun hlt r cap hr hcap=> ?_⟩
 ·rcases hb.own with ⟨ha,hc⟩ | ⟨r,all,ha,hsee,hal,htk⟩
  ·rw[ha]
   have hn0:x.n=0:=by have:=hb.le;omega
   have hm0:m=0:=by omega
   have e1:src= []:=by rw[←List.length_eq_zero_iff,hl,hm0];simp
   have e2:cs= []:=by rw[←List.length_eq_zero_iff,hb.len,hn0];simp
   refine hC _ _ ⟨by simp [e1,e2,hn0,hm0],by show x.n+m≤x.c;omega,hm2,.inl ⟨rfl,hc⟩⟩ rfl ?_
   unfold View.minus;rw[ha];exact View.Le.refl V
  ·rw[ha]
   have hfit:x.n*sz+src.length≤all.length:=by rw[hl,hal, ←Nat.add_mul];exact Nat.mul_le_mul_right _ hle
   have e0:(⟨r,0,none⟩:Addr).add (x.n*sz)=⟨r,x.n*sz,none⟩:=by rw[aW];simp
   show ay V ((⟨r,0,none⟩:Addr).add (x.n*sz)) src.length∧C ⟨some ⟨r,0,none⟩,x.n+m,x.c⟩ (V.sets ((⟨r,0,none⟩:Addr).add (x.n*sz)) src)
   rw[e0]
   refine⟨bJ hsee hfit, ?_⟩
   rw[bn hsee,gv _ _ _ hfit]
   refine hC _ _ ⟨by simp [hb.len,hl,Nat.add_mul],by show x.n+m≤x.c;omega,hm2,.inr ⟨r,_,rfl,View.ah _ _ _, ?_, ?_⟩⟩ rfl ?_
   ·simp only [List.length_append,List.length_take,List.length_drop];omega
   ·rw[htk]
    rw[List.take_append_of_le_length (by simp [hb.len,hl,Nat.add_mul])]
    rw[List.take_of_length_le (by simp [hb.len,hl,Nat.add_mul])]
   ·unfold View.minus
    rw[ha]
    exact aU r _
 ·have hfr:V.see r=none:=View.ax hr
  refine hC _ _ ⟨by simp [hb.len,hl,Nat.add_mul],hcap,hm2,.inr ⟨r,_,rfl,View.ah _ _ _, ?_, ?_⟩⟩ rfl ?_
  ·simp [hb.len,hl,hz,List.length_flatten,Nat.sub_mul,Nat.add_mul]
   have:=Nat.mul_le_mul_right sz hcap
   rw[Nat.add_mul]at this
   omega
  ·rw[List.take_append_of_le_length (by simp [hb.len,hl,Nat.add_mul])]
   rw[List.take_of_length_le (by simp [hb.len,hl,Nat.add_mul])]
  ·have h2:V.Le ((V.put r (.cells (cs++src++(List.replicate (cap-(x.n+m)) zero).flatten).toArray e (0,0))).bt r):=
    ⟨Nat.le_max_left _ _,fun i o ho=>by
     have hne:i≠r:=fun h=>by rw[h,hfr]at ho;cases ho
     show(if i=r then none else View.see (V.put r _) i)=some o
     rw[if_neg hne,View.aF V _ hne];exact ho,rfl⟩
   exact(View.aj V x).trans h2
def aR {α:Type} [Rep α] (W:View):List Value→List α→Prop
 | cs,[]=>cs= []
 | cs,x::l=>∃vs us,cs=vs++us∧Rep.rep W vs x∧aR W us l
theorem aR.mono {α:Type} [Rep α] {W W' :View} (h:W.Le W'):∀ {cs:List Value} {l:List α},aR W cs l→aR W' cs l
 | _,[],hr=>hr
 | _,_::_,⟨vs,us,e,h1,h2⟩=>⟨vs,us,e,Rep.mono h h1,aR.mono h h2⟩
theorem aR.snoc {α:Type} [Rep α] {W:View} :∀ {cs:List Value} {l:List α} {vs:List Value} {x:α},aR W cs l→Rep.rep W vs x→aR W (cs++vs) (l++ [x])
 | _,[],vs,x,h,hx=>by cases h;exact⟨vs,[],by simp,hx,rfl⟩
 | _,y::l,vs,x,⟨ws,us,e,h1,h2⟩,hx=>⟨ws,us++vs,by rw[e,List.append_assoc],h1,aR.snoc h2 hx⟩
theorem aR.append {α:Type} [Rep α] {W:View} :∀ {cs ds:List Value} {l m:List α},aR W cs l→aR W ds m→aR W (cs++ds) (l++m)
 | _,_,[],m,h,hm=>by cases h;simpa using hm
 | _,_,y::l,m,⟨ws,us,e,h1,h2⟩,hx=>⟨ws,us++_,by rw[e,List.append_assoc],h1,aR.append h2 hx⟩
theorem aR.len {α:Type} [Rep α] {W:View} :∀ {cs:List Value} {l:List α},aR W cs l→cs.length=l.length*Rep.sz α
 | _,[],h=>by cases h;simp
 | _,_::_,⟨vs,us,e,h1,h2⟩=>by rw[e,List.length_append,Rep.len h1,aR.len h2,List.length_cons,Nat.add_mul];omega
theorem aR.one {α:Type} [Rep α] {W:View} :∀ {cs:List Value} {l:List α},aR W cs l→cs.all Value.oneCell' =true
 | _,[],h=>by cases h;rfl
 | _,_::_,⟨vs,us,e,h1,h2⟩=>by rw[e,List.all_append,Rep.one h1,aR.one h2];rfl
theorem aR.get {α:Type} [Rep α] {W:View} :∀ {cs:List Value} {l:List α},aR W cs l→∀i (h:i<l.length),∃vs,Rep.rep W vs l[i]∧∀j v,vs[j]? =some v→cs[i*Rep.sz α+j]? =some v
 | _,[],_,i,h=>absurd h (by simp)
 | _,x::l,⟨vs,us,e,h1,h2⟩,0,_=>⟨vs,h1,fun j v hj=>by
   rw[e,Nat.zero_mul,Nat.zero_add,List.getElem?_append_left (List.getElem?_eq_some_iff.1 hj).1];exact hj⟩
 | _,x::l,⟨vs,us,e,h1,h2⟩,i+1,h=>by
   obtain⟨ws,hr,hg⟩:=aR.get h2 i (by simpa using h)
   refine⟨ws,hr,fun j v hj=> ?_⟩
   rw[e,List.getElem?_append_right (by rw[Rep.len h1,Nat.add_mul];omega),Rep.len h1,Nat.add_mul]
   rw[show i*Rep.sz α+1*Rep.sz α+j-Rep.sz α=i*Rep.sz α+j by omega]
   exact hg j v hj
theorem Buf.slR {α:Type} [Rep α] {W V:View} {x:Sl} {e:TypeId} {cs:List Value} {l:List α} (h:Buf V x e (Rep.sz α) cs) (hr:aR W cs l) (hW:W.Le V):SlR V x l:=by
 have hn:x.n=l.length:=Nat.eq_of_mul_eq_mul_right (Rep.pos (α:=α)) (h.len.symm.trans hr.len)
 refine⟨hn,h.le,Nat.le_trans h.lim (by decide),fun i hi=> ?_⟩
 obtain⟨vs,hv,hg⟩:=hr.get i hi
 rcases h.own with ⟨ha,hc⟩ | ⟨r,all,ha,hs,hl,ht⟩
 ·have:=h.le;omega
 ·refine⟨_,vs,ha, ?_,Rep.mono hW hv⟩
  rw[aW]
  refine cQ hs fun j v hj=> ?_
  have:=hg j v hj
  rw[←ht,List.getElem?_take]at this
  split at this
  ·simpa using this
  ·cases this
theorem SlR.row {α:Type} [Rep α] {V:View} {s:Sl} {l:List α} (h:SlR V s l):∃cs,rowAt V s.a (s.n*Rep.sz α) cs∧aR V cs l:=by
 have hn:=h.n;have hg:=h.get
 suffices key:∀(k:Nat),k≤l.length→∃cs,aR V cs (l.take k)∧(∀ad,s.a=some ad→aq V ad cs)from by
  obtain⟨cs,h1,h2⟩:=key l.length (Nat.le_refl _)
  rw[List.take_length]at h1
  refine⟨cs, ?_,h1⟩
  cases ha:s.a with
  | none=>
    show cs= []
    cases l with
    | nil=>exact h1
    | cons x l=>obtain⟨ad,_,h',_⟩:=hg 0 (by simp);rw[ha]at h';cases h'
  | some ad=>exact⟨by rw[h1.len,hn],h2 ad ha⟩
 intro k
 induction k with
 | zero=>intro _;exact⟨[],by simp [aR],fun ad _ j v hj=>by simp at hj⟩
 | succ k ih=>
   intro hk
   obtain⟨cs,h1,h2⟩:=ih (by omega)
   obtain⟨ad,vs,ha,hc,hr⟩:=hg k (by omega)
   refine⟨cs++vs, ?_,fun ad' ha' => ?_⟩
   ·rw[List.take_add_one,List.getElem?_eq_getElem (by omega)]
    exact h1.snoc hr
   ·rw[ha]at ha';cases ha'
    refine qj.2 ⟨h2 ad ha, ?_⟩
    rw[h1.len,List.length_take,Nat.min_eq_left (by omega)]
    exact hc
end Go.Proofs.YtoogangnldppaaaGreatDoor
/- From a call over views to a row; how arguments are read. -/
namespace Go.Proofs.YtoogangnldppaaaGreatDoor
open Go Go.RowKit Go.ChangeShapes Go.WideShapes
theorem own:ownKnob Tryz.prog.godebug=none:=by kernel_rfl
theorem laidOut:laidOutB Tryz.prog=true:=by kernel_rfl
theorem LC:mapsRowed Tryz.prog=true:=by kernel_rfl
section
variable {H:Type} {enc:TypeId×Value→H} {P:Program}
theorem vF {W W' :World} {V' :View} (h:V'.In W') (hl:(View.all W).Le V'):Below W.heap.size W W' :=by
 have ho:World.outer W' =World.outer W:=h.out.trans hl.out
 unfold World.outer at ho
 simp only [Prod.mk.injEq]at ho
 refine⟨ho.1,ho.2.1,ho.2.2,Nat.le_trans hl.size h.size,fun k hk=> ?_⟩
 have h1:W.heap[k]? =some W.heap[k]:=Array.getElem?_eq_getElem hk
 rw[h1]
 exact h.see k _ (hl.see k _ h1)
theorem rN {W W' :World} (hb:Below W.heap.size W W'):∀p:MemPlace,p.block<W.heap.size→W.sameAt W' p:=by
 intro p hp
 cases p with
 | cell b off=>
   have:=hb.block b hp
   show W'.cell? _=W.cell? _
   unfold World.cell?
   simp only [this]
 | map b=>exact hb.block b hp
theorem lJ {t0:TypeId→Prop} (K:Kids P t0) (hsz:∀ {t e:TypeId},t0 t→P.underlying t=some (.slice e)→0<P.cellsOf e) {W W' :World} (hb:Below W.heap.size W W'):
  ∀ {ts:List TypeId} {vs:List Value} {ds:List (DataW H)} {ps:List MemPlace},(∀t∈ts,t0 t)→DataW.TrodAll enc P W 0 (fun _=>true) true ts vs ds ps→
    DataW.TrodAll enc P W' 0 (fun b=>decide (b<W.heap.size)) true ts vs ds ps
 | [],[],[],_,_,h=>h
 | t::ts,v::vs,d::ds,ps,ht,⟨p,q,⟨fuel,h1⟩,h2,e⟩=>by
   refine⟨p,q,⟨fuel, ?_⟩,lJ K hsz hb (fun t h=>ht t (by simp [h])) h2,e⟩
   have hlt:=DataW.trod_lt fuel t v.cells.toList _ h1
   exact DataW.trod_stays K hsz (fun h=>by cases h) (ht t (by simp)) h1 (fun p hp=>rN hb p (hlt p hp)) (fun p hp=>by simpa using hlt p hp)
theorem zU {f:Func} {s:ChangeSpec} {apart fresh handsOn:Bool} {t0:TypeId→Prop} (K:Kids P t0) (hsz:∀ {t e:TypeId},t0 t→P.underlying t=some (.slice e)→0<P.cellsOf e) {W:World} {args:Array Value} {ds gs:List (DataW H)} {before:List MemPlace} {tb:TypeId}
  (hv:s.vars= []) (hr:f.resultTypes= #[tb]) (hb:P.underlying tb=some .bool) (hts:∀t∈f.params.toList,t0 t)
  (hW:DataW.Whole enc P f.params.toList s.vars apart W args.toList ds gs before) (hs:s.fn H (ds++gs)= { results:= [.lit (.bool true)],args:=ds })
  {F:FuncId} (hc:af P F args (View.all W) fun r V' =>r= .bool true∧(View.all W).Le V'):
  Calls P F args W fun e W' =>∃v,e= .returned v∧s.post enc P f apart fresh handsOn false W args v W' :=by
 refine(hc.2 W (View.HY W)).mono ?_
 rintro e W' ⟨r,V',rfl,hin,_,rfl,hle⟩
 have hbl:=vF hin hle
 obtain⟨p,q,hA,hV,rfl,hfz,hnd⟩:=hW
 have hq:gs= []∧q= []:=by
  rw[hv]at hV
  cases gs with
  | nil=>exact⟨rfl,hV⟩
  | cons g r=>exact absurd hV (by intro h;cases h)
 obtain⟨rfl,rfl⟩:=hq
 refine⟨_,rfl,ds,[],p++ [],[],p,[],⟨p,[],hA,hV,rfl,hfz,hnd⟩, ?_, ?_, ?_,hbl.frame _,fun h=>by cases h⟩
 ·rw[hs,hr];exact trodAll_mk1 (shut_bool hb true)
 ·rw[hs];exact lJ K hsz hbl hts hA
 ·rw[hs,hv];rfl
theorem zV {f:Func} (h:(f.params.toList.all fun t=>decide (t<P.types.size))=true):∀t∈f.params.toList,t<P.types.size:=fun t ht=>by
 simpa using List.all_eq_true.1 h t ht
theorem vG {a:Assume} {C:Checked} {os:Os} {f:FuncId} {fn:Func} {s:ChangeSpec} {conds:List PathCond} {apart fresh handsOn again:Bool} {X:World→Array Value→Prop}
  (_hX:∀(w w' :World) (args:Array Value),w.heap=w'.heap→X w args→X w' args)
  (own:ownKnob C.prog.godebug=none) (started:os.Started) (noInit:C.prog.inits.idxOf? f=none) (hfn:C.prog.funcs[f]? =some fn)
  (witness:∃(w:World) (tape:Tape) (i:Input),w.os=os∧(w.forCall tape i).Shaped C.prog∧i.vars= []∧Input.okWide C.prog (w.forCall tape i) .any w.heap.size f i∧
   ((s.pre enc C.prog fn conds apart (w.forCall tape i).memory i.args∧X (w.forCall tape i).memory i.args)∧sizedMet enc C.prog fn (OpenSpec.ofChange s) apart (w.forCall tape i).memory i.args)∧a.holds C.prog (lone (Frame.enter C.prog f i.args .normal) [] (w.forCall tape i)))
  (contract:∀(W:World) (base:Nat) (args:Array Value) (ds gs:List (DataW H)) (before:List MemPlace),
   (∀(j:Nat) t v,fn.params[j]? =some t→args[j]? =some v→Value.okWide C.prog W .any base t v)→
   DataW.Whole enc C.prog fn.params.toList s.vars apart W args.toList ds gs before→W.ShapedOpen C.prog→
   Calls C.prog f args W fun e W' =>∃v,e= .returned v∧s.post enc C.prog fn apart fresh handsOn again W args v W'):
  ReturnsInHanded a C os f .any (fun w args=>(s.pre enc C.prog fn conds apart w args∧X w args)∧sizedMet enc C.prog fn (OpenSpec.ofChange s) apart w args) (s.post enc C.prog fn apart fresh handsOn again):=by
 refine returnsInHanded_of_calls own started noInit witness ?_
 intro w tape i _ hsh _ hok hpre hholds
 obtain⟨_,_,_,fn',hfn',_,_,_,_,hval⟩:=hok
 have e:fn' =fn:=Option.some.inj (hfn'.symm.trans hfn)
 subst e
 obtain⟨⟨⟨ds,gs,before,hw,hc⟩,hx⟩,hz⟩:=hpre
 have hw' :=DataW.Whole.of_heap (w' :=w.forCall tape i) (by rfl) hw
 refine(contract (w.forCall tape i) w.heap.size i.args ds gs before hval hw' hsh).mono fun e W' ⟨v,he,hp⟩=> ?_
 subst he
 exact ChangeSpec.post_blind hp
end
end Go.Proofs.YtoogangnldppaaaGreatDoor
/- Trees as plain data; how they lie in a view, and in what comes in. -/
namespace Go.Proofs.YtoogangnldppaaaGreatDoor
open Go
structure Ent where
 name:ByteArray
 node:Int
 deriving DecidableEq
structure Nod where
 kind:Int
 links:Int
 size:Int
 an:List Int
 az:List Ent
 deriving DecidableEq
abbrev Tre:=List Nod
def Nod.zero:Nod:=⟨0,0,0,[],[]⟩
instance:Inhabited Ent:=⟨⟨⟨#[]⟩,0⟩⟩
instance:Inhabited Nod:=⟨Nod.zero⟩
structure Rf where
 aS:Int
 seq:Int
 deriving DecidableEq
instance:Rep Ent where
 sz:=2
 pos:=by decide
 rep _ vs x:=vs= [.string x.name,.int .i64 x.node]∧x.name.size≤9223372036854775807∧inI .i64 x.node
 len h:=by rw[h.1];rfl
 one h:=by rw[h.1];rfl
 mono _ h:=h
instance:Rep Rf where
 sz:=2
 pos:=by decide
 rep _ vs x:=vs= [.int .i64 x.aS,.int .i64 x.seq]∧inI .i64 x.aS∧inI .i64 x.seq
 len h:=by rw[h.1];rfl
 one h:=by rw[h.1];rfl
 mono _ h:=h
instance:Rep Nod where
 sz:=5
 pos:=by decide
 rep V vs x:=∃s e:Sl,vs= [.int .i64 x.kind,.int .i64 x.links,.int .i64 x.size,.slice s.a s.n s.c,.slice e.a e.n e.c]∧inI .i64 x.kind∧inI .i64 x.links∧inI .i64 x.size∧SlR V s x.an∧SlR V e x.az
 len h:=by obtain⟨s,e,h,_⟩:=h;rw[h];rfl
 one h:=by obtain⟨s,e,h,_⟩:=h;rw[h];rfl
 mono hV h:=let ⟨s,e,h,a,b,c,d,f⟩:=h;⟨s,e,h,a,b,c,d.mono hV,f.mono hV⟩
theorem SlR.ent {V:View} {s:Sl} {l:List Ent} (h:SlR V s l) {x:Int} (h0:0≤x) (h1:x<s.n):
  ∃ad,∃hx:x.toNat<l.length,s.a=some ad∧aq V (ad.add (x.toNat*2)) [.string l[x.toNat].name,.int .i64 l[x.toNat].node]∧l[x.toNat].name.size≤9223372036854775807∧inI .i64 l[x.toNat].node:=by
 obtain⟨ad,vs,hx,ha,hc,rfl,hi⟩:=h.ld h0 h1
 exact⟨ad,hx,ha,hc,hi⟩
structure dJ (V:View) (s e:Sl) (x:Nod):Prop where
 kind:inI .i64 x.kind
 links:inI .i64 x.links
 size:inI .i64 x.size
 an:SlR V s x.an
 az:SlR V e x.az
theorem dJ.mono {V V' :View} {s e:Sl} {x:Nod} (hV:V.Le V') (h:dJ V s e x):dJ V' s e x:=⟨h.kind,h.links,h.size,h.an.mono hV,h.az.mono hV⟩
theorem dJ.rep {V:View} {s e:Sl} {x:Nod} (h:dJ V s e x):Rep.rep V [.int .i64 x.kind,.int .i64 x.links,.int .i64 x.size,.slice s.a s.n s.c,.slice e.a e.n e.c] x:=⟨s,e,rfl,h.kind,h.links,h.size,h.an,h.az⟩
theorem SlR.nod {V:View} {s:Sl} {l:List Nod} (h:SlR V s l) {x:Int} (h0:0≤x) (h1:x<s.n):
  ∃ad sq en,∃hx:x.toNat<l.length,s.a=some ad∧aq V (ad.add (x.toNat*5)) [.int .i64 l[x.toNat].kind,.int .i64 l[x.toNat].links,.int .i64 l[x.toNat].size,.slice sq.a sq.n sq.c,.slice en.a en.n en.c]∧dJ V sq en l[x.toNat]:=by
 obtain⟨ad,vs,hx,ha,hc,sq,en,rfl,h1,h2,h3,h4,h5⟩:=h.ld h0 h1
 exact⟨ad,sq,en,hx,ha,hc,⟨h1,h2,h3,h4,h5⟩⟩
theorem av {V:View} {a:Addr} {vs:List Value} (h:aq V a vs) (j:Nat) {v:Value} (hj:vs[j]? =some v):V.cell? (a.add j)=some v:=h j v hj
section
variable {H:Type} {enc:TypeId×Value→H} {P:Program} {w:World} {base:Nat} {sp:Nat→Bool} {held:Bool}
class fF (P:Program) (α:Type) [Rep α] (t:TypeId):Prop where
 of:∀ {H:Type} {enc:TypeId×Value→H} {w:World} {base:Nat} {sp:Nat→Bool} {held:Bool} {fuel:Nat} {cs:List Value} {x:DataW H×List MemPlace},DataW.trod enc P w base sp held fuel t cs=some x→∃d:α,Rep.rep (View.all w) cs d
theorem Ij {k:IntKind} {n:Int} (h:(Lit.int k n).wf=true):inI k n:=by
 simpa [Lit.wf,inI]using h
theorem iG {t:TypeId} (ht:P.underlying t=some (.int .i64)):fF P Int t:=⟨fun h=>by
 obtain⟨n,hc,_,hw⟩:=DataW.trod_int ht h
 exact⟨n,hc,Ij hw⟩⟩
theorem xL {t:TypeId} (ht:P.underlying t=some (.int .u8)):fF P UInt8 t:=⟨fun h=>by
 obtain⟨n,hc,_,hw⟩:=DataW.trod_int ht h
 have h2:0≤n∧n≤255:=by simpa [Lit.wf,IntKind.min,IntKind.max,IntKind.signed,IntKind.bits]using hw
 refine⟨UInt8.ofNat n.toNat, ?_⟩
 show _= [Value.int .u8 (UInt8.ofNat n.toNat).toNat]
 rw[hc,UInt8.toNat_ofNat']
 congr 2
 omega⟩
theorem kz {t:TypeId} (ht:P.underlying t=some .string):fF P ByteArray t:=⟨fun h=>by
 obtain⟨s,hc,_,hw⟩:=DataW.trod_string ht h
 exact⟨s,hc,hw⟩⟩
theorem zW {w:World} {b:Nat} {a:Addr} {n:Nat} {cs:List Value} (h:w.cells? b a n=some cs):cs.length=n∧aq (View.all w) a cs:=by
 obtain⟨_,hl,hc⟩:=World.cells?_some h
 refine⟨hl,fun j v hj=> ?_⟩
 have hjn:j<n:=by rw[←hl];exact(List.getElem?_eq_some_iff.1 hj).1
 have:=hc j hjn
 rw[hj]at this
 exact this
theorem lK {α:Type} [Rep α] {t e:TypeId} (ht:P.underlying t=some (.slice e)) (hs:P.cellsOf e=Rep.sz α) (he:fF P α e):fF P (List α) t:=⟨fun {H enc w base sp held fuel cs x} h=>by
 rcases DataW.trod_slice ht h with ⟨rfl,_⟩ | ⟨a,len,cap,elems,rest,n,_,rfl,_,_,hlc,hcm,hel,hget,_,_⟩
 ·exact⟨[],⟨none,0,0⟩,rfl,SlR.nil _ _ _⟩
 have hex:∀i:Fin len,∃d:α,∃vs,aq (View.all w) (a.add (i.val*Rep.sz α)) vs∧Rep.rep (View.all w) vs d:=by
  intro i
  have:=hget i.val i.isLt
  rw[List.getElem?_eq_getElem (by rw[hel];exact i.isLt),Option.bind_eq_some_iff]at this
  obtain⟨cs,hc,hy⟩:=this
  obtain⟨d,hd⟩:=he.of hy
  rw[hs]at hc
  exact⟨d,cs,(zW hc).2,hd⟩
 refine⟨List.ofFn fun i=>Classical.choose (hex i),⟨some a,len,cap⟩,rfl,by simp,hlc, ?_,fun i hi=> ?_⟩
 ·have:cap≤9223372036854775807:=hcm
  show len≤_;omega
 ·have hi' :i<len:=by simpa using hi
  obtain⟨vs,h1,h2⟩:=Classical.choose_spec (hex ⟨i,hi'⟩)
  exact⟨a,vs,rfl,h1,by rw[List.getElem_ofFn];exact h2⟩⟩
theorem e9 {t:TypeId} {i o:Nat} {ft:TypeId} {fuel:Nat} {cs:List Value} {x:DataW H×List MemPlace} (hf:fW P t i=some (o,ft)) (h:DataW.trod enc P w base sp held fuel t cs=some x):
  cs.length=P.cellsOf t∧∃n y,DataW.trod enc P w base sp held n ft ((cs.drop o).take (P.cellsOf ft))=some y:=by
 obtain⟨fs,fd,hu,hfd,rfl,rfl⟩:=iF hf
 obtain⟨xs,n,_,_,hl,hxl,hget⟩:=DataW.trod_struct hu h
 have:=hget i fd hfd
 have hi:i<xs.length:=by rw[hxl];exact(Array.getElem?_eq_some_iff.1 hfd).1
 rw[List.getElem?_eq_getElem hi]at this
 exact⟨hl,n,_,this⟩
end
theorem D3:fF Tryz.prog (List UInt8) 23:=lK (e:=5) Tryz.underlying23 (by kernel_rfl) (xL Tryz.underlying5)
end Go.Proofs.YtoogangnldppaaaGreatDoor
/- Numbers and texts as bytes: plain functions and what they answer. No program in this text. -/
namespace Go.Proofs.YtoogangnldppaaaGreatDoor
end Go.Proofs.YtoogangnldppaaaGreatDoor
/- Small things. -/
namespace Go.Proofs.YtoogangnldppaaaGreatDoor
open Go
theorem au {n:Int} (h1: -9223372036854775808≤n) (h2:n≤9223372036854775807):inI .i64 n:=⟨h1,h2⟩
theorem fj {n:Int} :inI .i64 n↔ -9223372036854775808≤n∧n≤9223372036854775807:=Iff.rfl
theorem oO:inI .i64 1:=au (by decide) (by decide)
theorem zi:inI .i64 2:=au (by decide) (by decide)
theorem zero64:inI .i64 0:=au (by decide) (by decide)
def eR {α:Type} (p:α→Bool):List α→Int
 | []=> -1
 | x::l=>if p x then 0 else match eR p l with
   | .ofNat n=>n+1
   | .negSucc _=> -1
theorem gh {α:Type} (p:α→Bool):∀l:List α,eR p l= -1∧l.any p=false∨(0≤eR p l∧eR p l<l.length∧l.any p=true)
 | []=> .inl ⟨rfl,rfl⟩
 | x::l=>by
   unfold eR
   by_cases h:p x=true
   ·right;rw[if_pos h];simp [h]
   ·rw[if_neg h]
    rcases gh p l with ⟨h1,h2⟩ | ⟨h1,h2,h3⟩
    ·left;rw[h1];simp [h,h2];rfl
    ·right
     cases hc:eR p l with
     | ofNat n=>rw[hc]at h2;simp only [Int.ofNat_eq_natCast]at h2;simp [h3];omega
     | negSucc n=>rw[hc]at h1;omega
theorem eu {α:Type} (p:α→Bool):∀(l:List α) (i:Nat) (h:i<l.length),(∀j (hj:j<i),p (l[j]'(by omega))=false)→p l[i]=true→eR p l=i
 | x::l,0,_,_,h2=>by unfold eR;rw[if_pos (by simpa using h2)];rfl
 | x::l,i+1,h,h1,h2=>by
   have h0:=h1 0 (by omega)
   simp only [List.getElem_cons_zero]at h0
   unfold eR
   rw[if_neg (by rw[h0];simp),eu p l i (by simpa using h) (fun j hj=>by have:=h1 (j+1) (by omega);simpa using this) (by simpa using h2)]
   simp
theorem fk {α:Type} (p:α→Bool):∀(l:List α),(∀x∈l,p x=false)→eR p l= -1
 | [],_=>rfl
 | x::l,h=>by
   unfold eR
   rw[if_neg (by rw[h x (by simp)];simp),fk p l (fun y hy=>h y (by simp [hy]))]
   rfl
theorem jh {V V' :View} (h:V.Le V') (p:Nat):(V.bt p).Le (V'.bt p):=by
 refine⟨h.size,fun i o ho=> ?_,h.out⟩
 unfold View.bt at*
 simp only at*
 split at ho
 ·cases ho
 ·rename_i hne;rw[if_neg hne];exact h.see i o ho
theorem aO (V:View) (p i:Nat):(V.bt p).see i=if i=p then none else V.see i:=rfl
theorem kA (V:View) (p:Nat) (x:Sl) (i:Nat):((V.bt p).minus x).see i=if i=p then none else(V.minus x).see i:=by
 unfold View.minus
 split
 ·rfl
 ·simp only [aO]
  split<;>split<;>rfl
theorem rO (V:View) (p:Nat) (x:Sl):((V.bt p).minus x).Le ((V.minus x).bt p):=by
 refine⟨by unfold View.minus;split<;>exact Nat.le_refl _,fun i o ho=> ?_,by unfold View.minus;split<;>rfl⟩
 rw[kA]at ho
 rw[aO];exact ho
theorem rP (V:View) (p:Nat) (x:Sl):((V.minus x).bt p).Le ((V.bt p).minus x):=by
 refine⟨by unfold View.minus;split<;>exact Nat.le_refl _,fun i o ho=> ?_,by unfold View.minus;split<;>rfl⟩
 rw[kA]
 rw[aO]at ho;exact ho
theorem Buf.zX {V:View} {p:Nat} {o:Obj} {x:Sl} {e:TypeId} {sz:Nat} {cs:List Value} (h:Buf (V.bt p) x e sz cs) (ho:V.see p=some o):(V.minus x).see p=some o:=by
 unfold View.minus
 rcases h.own with ⟨ha,_⟩ | ⟨b,all,ha,hs,_⟩
 ·rw[ha];exact ho
 ·rw[ha,aO]
  rw[aO]at hs
  split at hs
  ·cases hs
  ·rename_i hne;rw[if_neg (fun e=>hne e.symm)];exact ho
theorem Buf.bt {V:View} {p:Nat} {o:Obj} {x:Sl} {e:TypeId} {sz:Nat} {cs:List Value} (h:Buf V x e sz cs) (ho:(V.minus x).see p=some o):Buf (V.bt p) x e sz cs:=by
 refine⟨h.len,h.le,h.lim, ?_⟩
 rcases h.own with h1 | ⟨b,all,ha,hs,h3⟩
 ·exact .inl h1
 ·refine .inr ⟨b,all,ha, ?_,h3⟩
  rw[aO]
  unfold View.minus at ho
  rw[ha,aO]at ho
  split at ho
  ·cases ho
  ·rename_i hne;rw[if_neg (fun e=>hne e.symm)];exact hs
theorem bz {V:View} {x:Sl} {r:Nat} {o:Obj} (h:V.see r=none):(V.minus x).Le ((V.put r o).minus x):=aN (View.bB h) x
theorem Buf.put {V:View} {x:Sl} {e:TypeId} {sz:Nat} {cs:List Value} (h:Buf V x e sz cs) {r:Nat} {o:Obj} (hr:V.see r=none):Buf (V.put r o) x e sz cs:=h.mono (View.bB hr)
theorem Buf.cut {V:View} {x:Sl} {e:TypeId} {sz:Nat} {cs:List Value} (h:Buf V x e sz cs) {k:Nat} (hk:k≤x.n):Buf V ⟨x.a,k,x.c⟩ e sz (cs.take (k*sz)):=by
 have hle:=Nat.mul_le_mul_right sz hk
 refine⟨by simp only [List.length_take,h.len,Nat.min_eq_left hle],Nat.le_trans hk h.le,Nat.le_trans hk h.lim, ?_⟩
 rcases h.own with h1 | ⟨r,all,h1,h2,h3,h4⟩
 ·exact .inl h1
 ·refine .inr ⟨r,all,h1,h2,h3, ?_⟩
  rw[←h4,List.take_take,Nat.min_eq_left hle]
theorem xM {V V0:View} {p:Nat} {o:Obj} {e:TypeId} {sz bytes:Nat} {zero:List Value} {x:Sl} {y:Value} {C:Sl→View→Prop} {cs src:List Value} {m:Nat} (hz:zero.length=sz)
  (ho:V.see p=some o) (hb:Buf (V.bt p) x e sz cs) (hle:V0.Le ((V.bt p).minus x)) (hs:ve V sz zero y m src) (hl:src.length=m*sz) (h1:src.all Value.oneCell' =true) (hm:(x.n+m)*bytes≤140737488355328) (hm2:x.n+m≤140737488355328)
  (hC:∀s V',V'.see p=some o→Buf (V'.bt p) s e sz (cs++src)→V0.Le ((V'.bt p).minus s)→s.n=x.n+m→C s V'):apV V e sz bytes zero x y C:=by
 refine jL hz (hb.mono (View.c6 V p)) hs hl h1 hm hm2 fun s V' hb' hn hle' => ?_
 have h2:=hle'.see _ _ (hb.zX ho)
 refine hC s V' ((View.aj V' s).see _ _ h2) (hb'.bt h2) ?_ hn
 exact hle.trans ((rO V p x).trans ((jh hle' p).trans (rP V' p s)))
theorem af.kZ {P:Program} {f:FuncId} {args:Array Value} {V:View} {x:Sl} {e:TypeId} {sz:Nat} {cs:List Value} {K:Value→View→Prop} (h:af P f args (V.minus x) K) (hb:Buf V x e sz cs):
  af P f args V fun r V' =>∃U',K r U' ∧U'.Le (V'.minus x)∧Buf V' x e sz cs:=by
 rcases hb.own with ⟨ha,hc⟩ | ⟨b,all,ha,hs,h3⟩
 ·have e1:V.minus x=V:=by unfold View.minus;rw[ha]
  rw[e1]at h
  refine h.mono fun r V' hk=>⟨V',hk, ?_,⟨hb.len,hb.le,hb.lim,.inl ⟨ha,hc⟩⟩⟩
  unfold View.minus;rw[ha];exact View.Le.refl _
 ·have e1:V.minus x=V.bt b:=by unfold View.minus;rw[ha]
  rw[e1]at h
  refine(af.frame (View.c6 V b) h).mono ?_
  rintro r V' ⟨U',hk,hle,hrest⟩
  have hp:(V.bt b).see b=none:=by simp [View.bt]
  obtain⟨h4,h5⟩:=hrest b _ hp hs
  refine⟨U',hk, ?_,⟨hb.len,hb.le,hb.lim,.inr ⟨b,all,ha,h4,h3⟩⟩⟩
  have e2:V'.minus x=V'.bt b:=by unfold View.minus;rw[ha]
  rw[e2]
  refine⟨hle.size,fun i o ho=> ?_,hle.out⟩
  have hne:i≠b:=fun e=>by rw[e,h5]at ho;cases ho
  rw[aO,if_neg hne];exact hle.see i o ho
theorem Buf.n_eq {α:Type} [Rep α] {W V:View} {x:Sl} {e:TypeId} {cs:List Value} {l:List α} (h:Buf V x e (Rep.sz α) cs) (hr:aR W cs l):x.n=l.length:=
 Nat.eq_of_mul_eq_mul_right (Rep.pos (α:=α)) (h.len.symm.trans hr.len)
theorem dx {V:View} {r:Nat} {cs:List Value} {e:TypeId} {f:Nat×Nat} (h:V.see r=some (.cells ⟨cs⟩ e f)) {k:Nat} (hk:cs.length=k):rowAt V (some ⟨r,0,none⟩) k cs:=
 ⟨hk,cQ h fun j v hj=>by simpa using hj⟩
theorem aT {V U:View} {r:Nat} {o:Obj} (hr:V.see r=none) (h:U.Le V):U.Le ((V.put r o).bt r):=
 h.trans ⟨Nat.le_max_left _ _,fun i o' ho=>by
   have hne:i≠r:=fun e=>by rw[e,hr]at ho;cases ho
   rw[aO,if_neg hne,View.aF V _ hne];exact ho,rfl⟩
end Go.Proofs.YtoogangnldppaaaGreatDoor
/- What the executor asks of these functions, written out. (Printed by wip/tools/gen.py.) -/
set_option maxRecDepth 100000
set_option linter.unusedVariables false
namespace Go.Proofs.YtoogangnldppaaaGreatDoor
open Go
variable [DrK]
def qd:AC:= .reg ⟨.done,false,[],[],none⟩
def rg (a n:Nat):List Nat:=List.range' a n
theorem obx (wr:Bool) (fn:Func) (ac:AC) {f:FuncId} {args:List Value} {V:View} {K:Value→View→Prop} {N:Prop} (hn:(fn.name== "runtime.NumGoroutine")=false) (hb:fn.body.isNone=false) (hf:Tryz.prog.funcs[f]? =some fn) (hN:N=XF Tryz.prog wr fn ac args V K) (h:N):af Tryz.prog f ⟨args⟩ V K:=
 Bl (wr:=wr) Tryz.checked.mixed (enters_of hf hn hb) hf (Eq.mp hN h)
def LD (a0:Int) (a1:Sl) (a2:Int) (V:View) (Q:Value→View→Prop):Prop:=
 af Tryz.prog 11 ⟨[.slice a1.a a1.n a1.c]⟩ V fun r V=>∃x:Int,r= .int .i64 x∧br (decide (0<x)) (af Tryz.prog 12 ⟨[]⟩ V fun r V=>∃x:Bool,r= .bool x∧Q (.bool x) V) (af Tryz.prog 13 ⟨[.int .i64 a0]⟩ V fun r V=>∃(x:Option Addr),r= .pointer x∧br (!(!Option.isNone x)==bif decide (1≤a0)then decide (a0≤60)else false) (Q (.bool false) V) (br (Option.isNone x) (af Tryz.prog 12 ⟨[]⟩ V fun r V=>∃x:Bool,r= .bool x∧Q (.bool x) V) (af Tryz.prog 21 ⟨[.int .i64 a0]⟩ V fun r V=>∃(x_1:Option Addr),r= .pointer x_1∧aG [K.int .i64] (fun(x_2:Int) V J=>br (decide (x_2<(a1.n:Int))) (0≤x_2∧x_2<(a1.n:Int)∧∃ad:Addr,a1.a=some ad∧∃x_3:Int,∃x_4 x_5:ByteArray,∃x_6 x_7 x_8:Int,∃x_9:Sl,aq V (ad.add (x_2.toNat*7)) [.int .i64 x_3,.string x_4,.string x_5,.int .i64 x_6,.int .i64 x_7,.int .i64 x_8,.slice x_9.a x_9.n x_9.c]∧∀(b:Nat),aA [] (fun J=>br (decide (x_2=a2)) (af Tryz.prog 22 ⟨[.pointer x]⟩ V fun r V=>r=Value.tuple ⟨[]⟩∧af Tryz.prog 23 ⟨[.pointer x_1]⟩ V fun r V=>r=Value.tuple ⟨[]⟩∧J V) (J V)) fun(V:View)=>af Tryz.prog 16 ⟨[.pointer x,.agg ⟨[.int .i64 x_3,.string x_4,.string x_5,.int .i64 x_6,.int .i64 x_7,.int .i64 x_8,.slice x_9.a x_9.n x_9.c]⟩]⟩ V fun r V=>∃x_10:Bool,r= .bool x_10∧af Tryz.prog 14 ⟨[.pointer x,.agg ⟨[.int .i64 x_3,.string x_4,.string x_5,.int .i64 x_6,.int .i64 x_7,.int .i64 x_8,.slice x_9.a x_9.n x_9.c]⟩]⟩ V fun r V=>∃x_11 x_12 x_13 x_14 x_15:Int,∃x_16 x_17:Sl,r= .agg ⟨[.int .i64 x_11,.int .i64 x_12,.int .i64 x_13,.int .i64 x_14,.int .i64 x_15,.slice x_16.a x_16.n x_16.c,.slice x_17.a x_17.n x_17.c]⟩∧∀(b:Nat),af Tryz.prog 24 ⟨[.pointer x_1,.agg ⟨[.int .i64 x_3,.string x_4,.string x_5,.int .i64 x_6,.int .i64 x_7,.int .i64 x_8,.slice x_9.a x_9.n x_9.c]⟩]⟩ V fun r V=>∃x_18 x_19 x_20 x_21 x_22:Int,∃x_23 x_24:Sl,∃x_25:Bool,r=Value.tuple ⟨[.agg ⟨[.int .i64 x_18,.int .i64 x_19,.int .i64 x_20,.int .i64 x_21,.int .i64 x_22,.slice x_23.a x_23.n x_23.c,.slice x_24.a x_24.n x_24.c]⟩,.bool x_25]⟩∧∀(b:Nat),aA [K.bool] (fun J=>True∧∃S:View,S.Le V∧af Tryz.prog 25 ⟨[.agg ⟨[.int .i64 x_11,.int .i64 x_12,.int .i64 x_13,.int .i64 x_14,.int .i64 x_15,.slice x_16.a x_16.n x_16.c,.slice x_17.a x_17.n x_17.c]⟩,.agg ⟨[.int .i64 x_18,.int .i64 x_19,.int .i64 x_20,.int .i64 x_21,.int .i64 x_22,.slice x_23.a x_23.n x_23.c,.slice x_24.a x_24.n x_24.c]⟩]⟩ V fun r V=>∃x_26:Bool,r= .bool x_26∧S.Le V∧∃S' :View,S.Le S' ∧S'.Le V∧br (!x_26) (∃S'_1:View,S'.Le S'_1∧S'_1.Le V∧∃S' :View,S'_1.Le S' ∧S'.Le V∧J true V) (br (!x_10==x_25) (∃S'_1:View,S'.Le S'_1∧S'_1.Le V∧∃S' :View,S'_1.Le S' ∧S'.Le V∧J true V) (∃a:Addr,x_1=some a∧∃x_27:Sl,aq S' (a.add (1:Nat)) [.slice x_27.a x_27.n x_27.c]∧af Tryz.prog 15 ⟨[.pointer x]⟩ V fun r V=>∃x_28:Sl,r= .agg ⟨[.slice x_28.a x_28.n x_28.c]⟩∧S'.Le V∧∃S'_1:View,S'.Le S'_1∧S'_1.Le V∧af Tryz.prog 17 ⟨[.agg ⟨[.slice x_28.a x_28.n x_28.c]⟩,.agg ⟨[.slice x_27.a x_27.n x_27.c]⟩]⟩ V fun r V=>∃x_29:Bool,r= .bool x_29∧S'_1.Le V∧∃S' :View,S'_1.Le S' ∧S'.Le V∧br (!x_29) (J true V) (∃a:Addr,x_1=some a∧∃x_30:Sl,S'.cell? (a.add (2:Nat))=some (.slice x_30.a x_30.n x_30.c)∧af Tryz.prog 27 ⟨[.pointer x]⟩ V fun r V=>∃x:Sl,r= .slice x.a x.n x.c∧S'.Le V∧af Tryz.prog 26 ⟨[.slice x.a x.n x.c,.slice x_30.a x_30.n x_30.c]⟩ V fun r V=>∃x:Bool,r= .bool x∧J (!x) V)))) fun x V=>br x (Q (.bool false) V) (inI .i64 (x_2+1)∧J (x_2+1) V)) (aG [K.int .i64] (fun(x_3:Int) V J=>br (decide (x_3<12)) (True∧∃S:View,S.Le V∧af Tryz.prog 28 ⟨[.pointer x,.int .i64 x_3]⟩ V fun r V=>∃x:Sl,r= .slice x.a x.n x.c∧S.Le V∧∃S' :View,S.Le S' ∧S'.Le V∧∃b:ByteArray,rowAt S' x.a x.n (dw b)∧af Tryz.prog 29 ⟨[.pointer x_1,.int .i64 x_3]⟩ V fun r V=>∃x:Sl,r= .slice x.a x.n x.c∧S'.Le V∧∃S'_1:View,S'.Le S'_1∧S'_1.Le V∧∃b_1:ByteArray,rowAt S'_1 x.a x.n (dw b_1)∧br (!decide (b=b_1)) (Q (.bool false) V) (inI .i64 (x_3+1)∧J (x_3+1) V)) (af Tryz.prog 12 ⟨[]⟩ V fun r V=>∃x:Bool,r= .bool x∧Q (.bool x) V)) ((0:Int),()) V)) ((0:Int),()) V)))
def LF:AC:=(.seq qd (.seq (.seq qd (.cond none (.seq qd .leaf) .leaf)) (.seq qd (.seq (.seq qd (.cond none (.seq qd .leaf) .leaf)) (.seq (.seq qd (.cond none (.seq qd .leaf) .leaf)) (.seq qd (.seq (.seq qd (.block none (.loop ⟨(rg 9 6++rg 39 53),[(38,.int .i64)],[]⟩ (.seq qd (.seq (.cond none .leaf .leaf) (.seq (.block none (.seq qd (.seq (.seq qd (.cond (some ⟨(rg 46 4),[],[]⟩) (.seq qd qd) .leaf)) (.seq qd (.seq qd (.seq qd (.seq (.reg ⟨(.fl 0 (.fl 1 (.alt 2 true true (.fl 3 (.fl 4 (.fl 5 (.fl 6 (.fl 7 (.fl 8 (.fl 9 (.fl 10 (.fl 12 (.fl 13 (.fl 14 (.fl 15 (.alt 11 true true (.alt 16 true true (.fl 17 (.fl 18 (.fl 19 (.fl 20 (.fl 22 (.fl 23 (.fl 24 (.fl 25 (.alt 21 true false (.alt 26 false false (.fl 27 (.fl 28 .done)) .no) .no))))))))) .no) .no))))))))))))) .no))),true,[],[],(some ⟨(rg 62 28),[(90,.bool)],[]⟩)⟩) (.cond none (.seq qd .leaf) .leaf)))))))) qd)))))) (.seq (.seq qd (.block none (.loop ⟨([15]++rg 93 12),[(92,.int .i64)],[]⟩ (.seq qd (.seq (.cond none .leaf .leaf) (.seq (.block none (.seq qd (.seq (.reg ⟨(.fl 0 (.fl 1 (.fl 4 (.fl 5 (.alt 2 true true (.fl 3 (.alt 6 true true (.fl 7 (.fl 8 .done)) .no)) .no))))),true,[],[],none⟩) (.cond none (.seq qd .leaf) .leaf)))) qd)))))) (.seq qd .leaf)))))))))
theorem Nl {a0:Int} {a1:Sl} {a2:Int} {V:View} {Q:Value→View→Prop} (h:LD a0 a1 a2 V Q):af Tryz.prog 7 ⟨[(.int .i64 a0),(.slice a1.a a1.n a1.c),(.int .i64 a2)]⟩ V Q:=
 obx false Tryz.f7 LF (by kernel_rfl) (by kernel_rfl) (by kernel_rfl) (by kernel_rfl) h
def Gg (a0:Sl) (V:View) (Q:Value→View→Prop):Prop:=
 aG [K.int .i64] (fun(x:Int) V J=>br (decide (x<(a0.n:Int))) (0≤x∧x<(a0.n:Int)∧∃ad:Addr,a0.a=some ad∧∃x_1:Int,∃x_2 x_3:ByteArray,∃x_4 x_5 x_6:Int,∃x_7:Sl,aq V (ad.add (x.toNat*7)) [.int .i64 x_1,.string x_2,.string x_3,.int .i64 x_4,.int .i64 x_5,.int .i64 x_6,.slice x_7.a x_7.n x_7.c]∧∀(b:Nat),aA [K.bool] (fun J=>br (decide (150≤x)) (J true V) (J (bif decide (300<IntKind.wrap IntKind.i64 ((↑(ByteArray.size x_2):Int)+(↑(ByteArray.size x_3):Int)))then true else decide (300<(x_7.n:Int))) V)) fun x_8 V=>br x_8 (Q (.int .i64 (IntKind.wrap IntKind.i64 (x+1))) V) (J (IntKind.wrap IntKind.i64 (x+1)) V)) (Q (.int .i64 0) V)) ((0:Int),()) V
def Ik:AC:=(.seq qd (.seq (.seq qd (.block none (.loop ⟨([3,4]++rg 8 22++ [32]),[(7,.int .i64)],[]⟩ (.seq qd (.seq (.cond none .leaf .leaf) (.seq (.block none (.seq qd (.seq (.reg ⟨.done,false,[],[],(some ⟨(rg 12 17),[(29,.bool)],[]⟩)⟩) (.cond none (.seq qd .leaf) .leaf)))) qd)))))) (.seq qd .leaf)))
theorem LG {a0:Sl} {V:View} {Q:Value→View→Prop} (h:Gg a0 V Q):af Tryz.prog 11 ⟨[(.slice a0.a a0.n a0.c)]⟩ V Q:=
 obx true Tryz.f11 Ik (by kernel_rfl) (by kernel_rfl) (by kernel_rfl) (by kernel_rfl) h
def Gh (V:View) (Q:Value→View→Prop):Prop:=
 af Tryz.prog 13 ⟨[.int .i64 5]⟩ V fun r V=>∃(x:Option Addr),r= .pointer x∧af Tryz.prog 14 ⟨[.pointer x,.agg ⟨[.int .i64 1,.string ⟨#[47,97]⟩,.string ⟨#[]⟩,.int .i64 0,.int .i64 0,.int .i64 0,.slice none 0 0]⟩]⟩ V fun r V=>∃x_1 x_2 x_3 x_4 x_5:Int,∃x_6 x_7:Sl,r= .agg ⟨[.int .i64 x_1,.int .i64 x_2,.int .i64 x_3,.int .i64 x_4,.int .i64 x_5,.slice x_6.a x_6.n x_6.c,.slice x_7.a x_7.n x_7.c]⟩∧∀(b:Nat),af Tryz.prog 14 ⟨[.pointer x,.agg ⟨[.int .i64 9,.string ⟨#[47,97]⟩,.string ⟨#[]⟩,.int .i64 0,.int .i64 0,.int .i64 0,.slice none 0 0]⟩]⟩ V fun r V=>∃x_8 x_9 x_10 x_11 x_12:Int,∃x_13 x_14:Sl,r= .agg ⟨[.int .i64 x_8,.int .i64 x_9,.int .i64 x_10,.int .i64 x_11,.int .i64 x_12,.slice x_13.a x_13.n x_13.c,.slice x_14.a x_14.n x_14.c]⟩∧∀(b:Nat),b7 V (Obj.cells (Array.mk (bD (bD [.int .u8 0,.int .u8 0] (0:Nat) [.int .u8 120]) (1:Nat) [.int .u8 121])) (5:Nat)) fun r V=>∃(cs:Array Value),∃te:Nat,V.see r=some (Obj.cells cs te)∧af Tryz.prog 14 ⟨[.pointer x,.agg ⟨[.int .i64 12,.string ⟨#[]⟩,.string ⟨#[]⟩,.int .i64 0,.int .i64 2,.int .i64 0,.slice (some (Addr.mk r 0 none)) (2:Nat) (2:Nat)]⟩]⟩ (V.put r (Obj.cells cs te (Array.size cs,Nat.succ (Nat.add (Array.size cs) (nat_lit 0))))) fun r V=>∃x_15 x_16 x_17 x_18 x_19:Int,∃x_20 x_21:Sl,r= .agg ⟨[.int .i64 x_15,.int .i64 x_16,.int .i64 x_17,.int .i64 x_18,.int .i64 x_19,.slice x_20.a x_20.n x_20.c,.slice x_21.a x_21.n x_21.c]⟩∧∀(b:Nat),af Tryz.prog 14 ⟨[.pointer x,.agg ⟨[.int .i64 11,.string ⟨#[]⟩,.string ⟨#[]⟩,.int .i64 0,.int .i64 0,.int .i64 9,.slice none 0 0]⟩]⟩ V fun r V=>∃x_22 x_23 x_24 x_25 x_26:Int,∃x_27 x_28:Sl,r= .agg ⟨[.int .i64 x_22,.int .i64 x_23,.int .i64 x_24,.int .i64 x_25,.int .i64 x_26,.slice x_27.a x_27.n x_27.c,.slice x_28.a x_28.n x_28.c]⟩∧∀(b:Nat),aA [K.bool] (fun J=>br (bif bif decide (x_1=0)then decide (x_8=0)else false then decide (x_17=2)else false) (∃b:ByteArray,rowAt V x_27.a x_27.n (dw b)∧br (bif decide (b=ByteArray.mk #[0,0,120,121])then decide (x_24=4)else false) (af Tryz.prog 16 ⟨[.pointer x,.agg ⟨[.int .i64 14,.string ⟨#[]⟩,.string ⟨#[]⟩,.int .i64 0,.int .i64 0,.int .i64 0,.slice none 0 0]⟩]⟩ V fun r V=>∃x_29:Bool,r= .bool x_29∧br (!x_29) (af Tryz.prog 14 ⟨[.pointer x,.agg ⟨[.int .i64 99,.string ⟨#[]⟩,.string ⟨#[]⟩,.int .i64 0,.int .i64 0,.int .i64 0,.slice none 0 0]⟩]⟩ V fun r V=>∃x x_30 x_31 x_32 x_33:Int,∃x_34 x_35:Sl,r= .agg ⟨[.int .i64 x,.int .i64 x_30,.int .i64 x_31,.int .i64 x_32,.int .i64 x_33,.slice x_34.a x_34.n x_34.c,.slice x_35.a x_35.n x_35.c]⟩∧J (decide (x=1)) V) (J false V)) (J false V)) (J false V)) fun x V=>Q (.bool x) V
def Il:AC:=(.seq qd (.seq qd (.seq qd (.seq qd (.seq qd (.seq qd (.seq (.reg ⟨.done,false,[],[],(some ⟨(rg 21 37),[(0,.bool)],[]⟩)⟩) .leaf)))))))
theorem LH {_u:Unit} {V:View} {Q:Value→View→Prop} (h:Gh V Q):af Tryz.prog 12 ⟨[]⟩ V Q:=
 obx false Tryz.f12 Il (by kernel_rfl) (by kernel_rfl) (by kernel_rfl) (by kernel_rfl) h
def Bn (a0:Int) (V:View) (Q:Value→View→Prop):Prop:=
 br (bif decide (a0<1)then true else decide (60<a0)) (Q (.pointer none) V) (af Tryz.prog 32 ⟨[]⟩ V fun r V=>∃x:Sl,r= .agg ⟨[.slice x.a x.n x.c]⟩∧af Tryz.prog 33 ⟨[]⟩ V fun r V=>∃x_1:Sl,r= .slice x_1.a x_1.n x_1.c∧b7 V (Obj.map ⟨[]⟩ (0:Nat)) fun r V=>∀(b:Nat),V.see b=none→Q (.pointer (some (Addr.mk b 0 none))) (V.put b (Obj.cells ⟨[.int .i64 a0,.slice x.a x.n x.c,.slice x_1.a x_1.n x_1.c,Value.map (some r),.int .i64 0]⟩ (71:Nat))))
def Im:AC:=(.seq qd (.seq (.seq qd (.cond none (.seq qd .leaf) .leaf)) (.seq (.reg ⟨.done,false,[(6,0)],[],none⟩) .leaf)))
theorem Gi {a0:Int} {V:View} {Q:Value→View→Prop} (h:Bn a0 V Q):af Tryz.prog 13 ⟨[(.int .i64 a0)]⟩ V Q:=
 obx false Tryz.f13 Im (by kernel_rfl) (by kernel_rfl) (by kernel_rfl) (by kernel_rfl) h
def Gj (a0:Option Addr) (a1_0:Int) (a1_1:ByteArray) (a1_2:ByteArray) (a1_3:Int) (a1_4:Int) (a1_5:Int) (a1_6:Sl) (V:View) (Q:Value→View→Prop):Prop:=
 ∀(b b:Nat),br (Option.isNone a0) (Q (.agg ⟨[.int .i64 1,.int .i64 0,.int .i64 0,.int .i64 0,.int .i64 0,.slice none 0 0,.slice none 0 0]⟩) V) (af Tryz.prog 34 ⟨[.pointer a0,.agg ⟨[.int .i64 a1_0,.string a1_1,.string a1_2,.int .i64 a1_3,.int .i64 a1_4,.int .i64 a1_5,.slice a1_6.a a1_6.n a1_6.c]⟩]⟩ V fun r V=>∃x x_1 x_2:Sl,∃x_3 x_4 x_5 x_6 x_7:Int,∃x_8 x_9:Sl,r= .agg ⟨[.slice x.a x.n x.c,.slice x_1.a x_1.n x_1.c,.slice x_2.a x_2.n x_2.c,.int .i64 x_3,.int .i64 x_4,.int .i64 x_5,.int .i64 x_6,.int .i64 x_7,.slice x_8.a x_8.n x_8.c,.slice x_9.a x_9.n x_9.c]⟩∧∀(b:Nat),aG [K.sl,K.int .i64] (fun(x_10:Sl) (x_11:Int) (V:View) (J:c7 [K.sl,K.int .i64])=>br (decide (x_11<(x_2.n:Int))) (0≤x_11∧x_11<(x_2.n:Int)∧∃ad:Addr,x_2.a=some ad∧∃x x_12 x_13 x_14 x_15:Int,∃x_16:Sl,aq V (ad.add (x_11.toNat*6)) [.int .i64 x,.int .i64 x_12,.int .i64 x_13,.int .i64 x_14,.int .i64 x_15,.slice x_16.a x_16.n x_16.c]∧∀(b:Nat),∃a:Addr,a0=some a∧∃x_17:Int,V.cell? (a.add (4:Nat))=some (.int .i64 x_17)∧inI .i64 (x_17+1)∧∃a:Addr,a0=some a∧ay V (a.add (4:Nat)) (nat_lit 1)∧True∧∃S:View,S.Le (V.sets (a.add (4:Nat)) [.int .i64 (x_17+1)])∧∃a_1:Addr,a0=some a_1∧∃(x_18:Option Nat),S.cell? (a_1.add (3:Nat))=some (Value.map x_18)∧∃a_2:Addr,a0=some a_2∧∃x_19:Int,S.cell? (a_2.add (4:Nat))=some (.int .i64 x_19)∧af Tryz.prog 36 ⟨[.pointer a0,.int .i64 x_13]⟩ (V.sets (a.add (4:Nat)) [.int .i64 (x_17+1)]) fun r V=>∃x_20:Sl,r= .slice x_20.a x_20.n x_20.c∧S.Le V∧af Tryz.prog 35 ⟨[.slice x_20.a x_20.n x_20.c,.agg ⟨[.int .i64 x,.int .i64 x_12,.int .i64 x_13,.int .i64 x_14,.int .i64 x_15,.slice x_16.a x_16.n x_16.c]⟩]⟩ V fun r V=>∃x:Sl,r= .slice x.a x.n x.c∧S.Le V∧True∧AQ V x_18 (.int .i64 x_19) fun(r:Nat) (es:Array MapEntry) (cl:Nat) (f:Option (Nat×Value))=>∃a:Addr,a0=some a∧∃x_21:Int,View.cell? (V.put r (j8 es cl f (.int .i64 x_19) (.slice x.a x.n x.c))) (a.add (4:Nat))=some (.int .i64 x_21)∧b7 (V.put r (j8 es cl f (.int .i64 x_19) (.slice x.a x.n x.c))) (Obj.cells (Array.mk (bD [.int .i64 0] (0:Nat) [.int .i64 x_21])) (3:Nat)) fun r V=>apV V (3:Nat) (1:Nat) (8:Nat) [.int .i64 0] (Sl.mk x_10.a x_10.n x_10.c) (.slice (some (Addr.mk r 0 none)) (1:Nat) (1:Nat)) fun s V=>inI .i64 (x_11+1)∧J (Sl.mk s.a s.n s.c) (x_11+1) V) (aA [K.sl,K.sl,K.sl,K.int .i64,K.int .i64,K.int .i64,K.int .i64,K.int .i64,K.sl,K.sl] (fun J=>br (decide (0<(x_10.n:Int))) (af Tryz.prog 37 ⟨[.agg ⟨[.slice x.a x.n x.c]⟩,.slice x_2.a x_2.n x_2.c,.slice x_10.a x_10.n x_10.c]⟩ V fun r V=>∃x:Sl,∃x_12:Int,r=Value.tuple ⟨[.agg ⟨[.slice x.a x.n x.c]⟩,.int .i64 x_12]⟩∧J (Sl.mk x.a x.n x.c) (Sl.mk x_1.a x_1.n x_1.c) (Sl.mk x_2.a x_2.n x_2.c) x_3 x_4 x_5 x_6 x_7 (Sl.mk x_8.a x_8.n x_8.c) (Sl.mk x_9.a x_9.n x_9.c) V) (J (Sl.mk x.a x.n x.c) (Sl.mk x_1.a x_1.n x_1.c) (Sl.mk x_2.a x_2.n x_2.c) x_3 x_4 x_5 x_6 x_7 (Sl.mk x_8.a x_8.n x_8.c) (Sl.mk x_9.a x_9.n x_9.c) V)) fun(x x_12 x_13:Sl) (x_14 x_15 x_16 x_17 x_18:Int) (x_19 x_20:Sl) (V:View)=>True∧∃S:View,S.Le V∧∃a:Addr,a0=some a∧ay V (a.add (1:Nat)) (Nat.succ (nat_lit 0))∧S.Le (V.sets (a.add (1:Nat)) [.slice x.a x.n x.c])∧∃a_1:Addr,a0=some a_1∧ay (V.sets (a.add (1:Nat)) [.slice x.a x.n x.c]) (a_1.add (2:Nat)) (nat_lit 1)∧Q (.agg ⟨[.int .i64 x_14,.int .i64 x_15,.int .i64 x_16,.int .i64 x_17,.int .i64 x_18,.slice x_19.a x_19.n x_19.c,.slice x_20.a x_20.n x_20.c]⟩) (View.sets (V.sets (a.add (1:Nat)) [.slice x.a x.n x.c]) (a_1.add (2:Nat)) [.slice x_12.a x_12.n x_12.c]))) (Sl.mk none (0:Nat) (0:Nat),(0:Int),()) V)
def Io:AC:=(.seq qd (.seq (.seq qd (.cond none (.seq qd .leaf) .leaf)) (.seq qd (.seq qd (.seq (.seq qd (.block none (.loop ⟨([8]++rg 19 32),[(6,.sl),(18,.int .i64)],[]⟩ (.seq qd (.seq (.cond none .leaf .leaf) (.seq (.block none (.seq qd (.seq qd (.seq (.reg ⟨(.fl 0 (.fl 1 (.fl 2 (.fl 3 (.fl 4 (.fl 5 (.fl 6 (.fl 7 (.fl 8 (.fl 9 (.fl 10 (.fl 12 (.alt 11 true false (.alt 13 true false (.alt 14 false false .done .no) .no) .no))))))))))))),true,[],[],none⟩) qd)))) qd)))))) (.seq (.seq qd (.cond (some ⟨(rg 54 10),[],[(2,[.sl,.sl,.sl,.int .i64,.int .i64,.int .i64,.int .i64,.int .i64,.sl,.sl])]⟩) qd .leaf)) (.seq (.reg ⟨(.fl 0 (.fl 1 (.fl 2 (.fl 3 (.fl 4 (.fl 5 (.fl 6 (.fl 7 (.alt 8 true false (.fl 9 (.fl 10 (.alt 11 false false .done .no))) .no))))))))),true,[],[],none⟩) (.seq qd .leaf))))))))
theorem LI {a0:Option Addr} {a1_0:Int} {a1_1:ByteArray} {a1_2:ByteArray} {a1_3:Int} {a1_4:Int} {a1_5:Int} {a1_6:Sl} {V:View} {Q:Value→View→Prop} (h:Gj a0 a1_0 a1_1 a1_2 a1_3 a1_4 a1_5 a1_6 V Q):af Tryz.prog 14 ⟨[(.pointer a0),(.agg ⟨[(.int .i64 a1_0),(.string a1_1),(.string a1_2),(.int .i64 a1_3),(.int .i64 a1_4),(.int .i64 a1_5),(.slice a1_6.a a1_6.n a1_6.c)]⟩)]⟩ V Q:=
 obx false Tryz.f14 Io (by kernel_rfl) (by kernel_rfl) (by kernel_rfl) (by kernel_rfl) h
def Gk (a0:Option Addr) (V:View) (Q:Value→View→Prop):Prop:=
 ∀(b:Nat),br (Option.isNone a0) (Q (.agg ⟨[.slice none 0 0]⟩) V) (∃a:Addr,a0=some a∧∃x:Sl,aq V (a.add (1:Nat)) [.slice x.a x.n x.c]∧af Tryz.prog 38 ⟨[.agg ⟨[.slice x.a x.n x.c]⟩]⟩ V fun r V=>∃x:Sl,r= .agg ⟨[.slice x.a x.n x.c]⟩∧Q (.agg ⟨[.slice x.a x.n x.c]⟩) V)
def Ip:AC:=(.seq qd (.seq (.seq qd (.cond none (.seq qd .leaf) .leaf)) (.seq qd .leaf)))
theorem LJ {a0:Option Addr} {V:View} {Q:Value→View→Prop} (h:Gk a0 V Q):af Tryz.prog 15 ⟨[(.pointer a0)]⟩ V Q:=
 obx false Tryz.f15 Ip (by kernel_rfl) (by kernel_rfl) (by kernel_rfl) (by kernel_rfl) h
def Gl (a0:Option Addr) (a1_0:Int) (a1_1:ByteArray) (a1_2:ByteArray) (a1_3:Int) (a1_4:Int) (a1_5:Int) (a1_6:Sl) (V:View) (Q:Value→View→Prop):Prop:=
 ∀(b:Nat),br (Option.isNone a0) (Q (.bool false) V) (af Tryz.prog 34 ⟨[.pointer a0,.agg ⟨[.int .i64 a1_0,.string a1_1,.string a1_2,.int .i64 a1_3,.int .i64 a1_4,.int .i64 a1_5,.slice a1_6.a a1_6.n a1_6.c]⟩]⟩ V fun r V=>∃x x_1 x_2:Sl,∃x_3 x_4 x_5 x_6 x_7:Int,∃x_8 x_9:Sl,r= .agg ⟨[.slice x.a x.n x.c,.slice x_1.a x_1.n x_1.c,.slice x_2.a x_2.n x_2.c,.int .i64 x_3,.int .i64 x_4,.int .i64 x_5,.int .i64 x_6,.int .i64 x_7,.slice x_8.a x_8.n x_8.c,.slice x_9.a x_9.n x_9.c]⟩∧∀(b:Nat),aA [K.bool] (fun J=>True∧∃S:View,S.Le V∧br (decide (0<(x_2.n:Int))) (J true V) (∃a:Addr,a0=some a∧∃x_10:Sl,aq S (a.add (1:Nat)) [.slice x_10.a x_10.n x_10.c]∧af Tryz.prog 39 ⟨[.agg ⟨[.slice x.a x.n x.c]⟩,.agg ⟨[.slice x_10.a x_10.n x_10.c]⟩]⟩ V fun r V=>∃x:Bool,r= .bool x∧J (!x) V)) fun x V=>Q (.bool x) V)
def Iq:AC:=(.seq qd (.seq (.seq qd (.cond none (.seq qd .leaf) .leaf)) (.seq qd (.seq (.reg ⟨(.fl 0 (.fl 1 (.fl 2 (.fl 3 (.fl 4 (.fl 5 (.fl 6 (.fl 7 (.fl 8 (.fl 9 (.fl 10 (.alt 11 false false (.fl 12 (.fl 13 (.fl 14 .done))) .no)))))))))))),true,[],[],(some ⟨(rg 11 14),[(4,.bool)],[]⟩)⟩) .leaf))))
theorem LK {a0:Option Addr} {a1_0:Int} {a1_1:ByteArray} {a1_2:ByteArray} {a1_3:Int} {a1_4:Int} {a1_5:Int} {a1_6:Sl} {V:View} {Q:Value→View→Prop} (h:Gl a0 a1_0 a1_1 a1_2 a1_3 a1_4 a1_5 a1_6 V Q):af Tryz.prog 16 ⟨[(.pointer a0),(.agg ⟨[(.int .i64 a1_0),(.string a1_1),(.string a1_2),(.int .i64 a1_3),(.int .i64 a1_4),(.int .i64 a1_5),(.slice a1_6.a a1_6.n a1_6.c)]⟩)]⟩ V Q:=
 obx false Tryz.f16 Iq (by kernel_rfl) (by kernel_rfl) (by kernel_rfl) (by kernel_rfl) h
def Gm (a0_0:Sl) (a1_0:Sl) (V:View) (Q:Value→View→Prop):Prop:=
 ∀(b b:Nat),br (!decide ((a0_0.n:Int)=(a1_0.n:Int))) (Q (.bool false) V) (aG [K.int .i64] (fun(x:Int) V J=>br (decide (x<(a0_0.n:Int))) (True∧∃S:View,S.Le V∧0≤x∧x<(a0_0.n:Int)∧∃ad:Addr,a0_0.a=some ad∧∃x_1 x_2 x_3:Int,∃x_4 x_5:Sl,aq S (ad.add (x.toNat*5)) [.int .i64 x_1,.int .i64 x_2,.int .i64 x_3,.slice x_4.a x_4.n x_4.c,.slice x_5.a x_5.n x_5.c]∧0≤x∧x<(a1_0.n:Int)∧∃ad:Addr,a1_0.a=some ad∧∃x_6 x_7 x_8:Int,∃x_9 x_10:Sl,aq S (ad.add (x.toNat*5)) [.int .i64 x_6,.int .i64 x_7,.int .i64 x_8,.slice x_9.a x_9.n x_9.c,.slice x_10.a x_10.n x_10.c]∧af Tryz.prog 30 ⟨[.agg ⟨[.int .i64 x_1,.int .i64 x_2,.int .i64 x_3,.slice x_4.a x_4.n x_4.c,.slice x_5.a x_5.n x_5.c]⟩,.agg ⟨[.int .i64 x_6,.int .i64 x_7,.int .i64 x_8,.slice x_9.a x_9.n x_9.c,.slice x_10.a x_10.n x_10.c]⟩]⟩ V fun r V=>∃x_11:Bool,r= .bool x_11∧br (!x_11) (Q (.bool false) V) (inI .i64 (x+1)∧J (x+1) V)) (Q (.bool true) V)) ((0:Int),()) V)
def Ir:AC:=(.seq qd (.seq (.seq qd (.cond none (.seq qd .leaf) .leaf)) (.seq (.seq qd (.block none (.loop ⟨([5]++rg 17 15),[(16,.int .i64)],[]⟩ (.seq qd (.seq (.cond none .leaf .leaf) (.seq (.block none (.seq qd (.seq (.reg ⟨(.fl 0 (.fl 1 (.fl 2 (.fl 3 (.fl 4 (.fl 5 (.fl 6 (.fl 7 (.fl 8 (.fl 9 (.alt 10 false false (.fl 11 .done) .no))))))))))),true,[],[],none⟩) (.cond none (.seq qd .leaf) .leaf)))) qd)))))) (.seq qd .leaf))))
theorem LL {a0_0:Sl} {a1_0:Sl} {V:View} {Q:Value→View→Prop} (h:Gm a0_0 a1_0 V Q):af Tryz.prog 17 ⟨[(.agg ⟨[(.slice a0_0.a a0_0.n a0_0.c)]⟩),(.agg ⟨[(.slice a1_0.a a1_0.n a1_0.c)]⟩)]⟩ V Q:=
 obx false Tryz.f17 Ir (by kernel_rfl) (by kernel_rfl) (by kernel_rfl) (by kernel_rfl) h
def Gn (a0_0:Sl) (V:View) (Q:Value→View→Prop):Prop:=
 ∀(b:Nat),aA [K.bool] (fun J=>br (!decide ((a0_0.n:Int)=12)) (J true V) ((0:Int)≤0∧0<(a0_0.n:Int)∧∃ad:Addr,a0_0.a=some ad∧∃x:Int,V.cell? (Addr.add (ad.add (0:Nat)) (0:Nat))=some (.int .i64 x)∧J (!decide (x=2)) V)) fun x V=>br x (Q (.bool false) V) (b7 V (Obj.map ⟨[]⟩ (0:Nat)) fun r V=>aG [K.int .i64] (fun(x:Int) V J=>br (decide (x<(a0_0.n:Int))) (0≤x∧x<(a0_0.n:Int)∧∃ad:Addr,a0_0.a=some ad∧∃x_1 x_2 x_3:Int,∃x_4 x_5:Sl,aq V (ad.add (x.toNat*5)) [.int .i64 x_1,.int .i64 x_2,.int .i64 x_3,.slice x_4.a x_4.n x_4.c,.slice x_5.a x_5.n x_5.c]∧∀(b:Nat),af Tryz.prog 40 ⟨[.agg ⟨[.int .i64 x_1,.int .i64 x_2,.int .i64 x_3,.slice x_4.a x_4.n x_4.c,.slice x_5.a x_5.n x_5.c]⟩]⟩ V fun r_1 V=>∃x_6:Bool,r_1= .bool x_6∧br (!x_6) (Q (.bool false) V) (aG [K.int .i64] (fun(x_7:Int) V J_1=>br (decide (x_7<(x_5.n:Int))) (0≤x_7∧x_7<(x_5.n:Int)∧∃ad:Addr,x_5.a=some ad∧∃x:ByteArray,∃x_8:Int,aq V (ad.add (x_7.toNat*2)) [.string x,.int .i64 x_8]∧∀(b:Nat),0≤x_8∧x_8<(a0_0.n:Int)∧∃ad:Addr,a0_0.a=some ad∧∃x:Int,V.cell? (Addr.add (ad.add (x_8.toNat*5)) (0:Nat))=some (.int .i64 x)∧br (decide (x=0)) (Q (.bool false) V) (inI .i64 (x_7+1)∧J_1 (x_7+1) V)) (aG [K.int .i64] (fun(x_8:Int) V J_2=>br (decide (x_8<(x_4.n:Int))) (0≤x_8∧x_8<(x_4.n:Int)∧∃ad:Addr,x_4.a=some ad∧∃x:Int,V.cell? (ad.add (x_8.toNat*1))=some (.int .i64 x)∧aA [K.bool] (fun J=>br (!decide (x=0)) (True∧AP V (some r) (.int .i64 x) fun(f:Option (Nat×Value))=>∃x:Int,found (.int .i64 0) f= .int .i64 x∧J (!decide (x=0)) V) (J false V)) fun x_9 V=>br x_9 (Q (.bool false) V) (True∧AQ V (some r) (.int .i64 x) fun(r:Nat) (es:Array MapEntry) (cl:Nat) (f:Option (Nat×Value))=>inI .i64 (x_8+1)∧J_2 (x_8+1) (V.put r (j8 es cl f (.int .i64 x) (.int .i64 1))))) (inI .i64 (x+1)∧J (x+1) V)) ((0:Int),()) V)) ((0:Int),()) V)) (af Tryz.prog 41 ⟨[.agg ⟨[.slice a0_0.a a0_0.n a0_0.c]⟩,.int .i64 0]⟩ V fun r V=>∃x:Sl,r= .slice x.a x.n x.c∧aG [K.int .i64] (fun(x_1:Int) V J=>br (decide (x_1<(a0_0.n:Int))) (0≤x_1∧x_1<(a0_0.n:Int)∧∃ad:Addr,a0_0.a=some ad∧∃x_2 x_3 x_4:Int,∃x_5 x_6:Sl,aq V (ad.add (x_1.toNat*5)) [.int .i64 x_2,.int .i64 x_3,.int .i64 x_4,.slice x_5.a x_5.n x_5.c,.slice x_6.a x_6.n x_6.c]∧∀(b:Nat),af Tryz.prog 42 ⟨[.agg ⟨[.slice a0_0.a a0_0.n a0_0.c]⟩,.int .i64 x_1]⟩ V fun r V=>∃x_7:Int,r= .int .i64 x_7∧aA [K.bool] (fun J=>br (decide (x_2=2)) (0≤x_1∧x_1<(x.n:Int)∧∃ad:Addr,x.a=some ad∧∃x:Bool,V.cell? (ad.add (x_1.toNat*1))=some (.bool x)∧J (bif bif !x then true else bif decide (0<x_1)then !decide (x_7=1)else false then true else bif decide (x_2=1)then !decide (x_3=x_7)else false) V) (J (bif decide (x_2=1)then !decide (x_3=x_7)else false) V)) fun x V=>br x (Q (.bool false) V) (inI .i64 (x_1+1)∧J (x_1+1) V)) (Q (.bool true) V)) ((0:Int),()) V)) ((0:Int),()) V)
def Is:AC:=(.seq qd (.seq (.seq (.reg ⟨.done,false,[],[],(some ⟨(rg 14 11),[(25,.bool)],[]⟩)⟩) (.cond none (.seq qd .leaf) .leaf)) (.seq qd (.seq (.seq qd (.block none (.loop ⟨([5,7,9]++rg 31 41),[(30,.int .i64)],[]⟩ (.seq qd (.seq (.cond none .leaf .leaf) (.seq (.block none (.seq qd (.seq (.seq qd (.cond none (.seq qd .leaf) .leaf)) (.seq (.seq qd (.block none (.loop ⟨([7]++rg 41 12),[(40,.int .i64)],[]⟩ (.seq qd (.seq (.cond none .leaf .leaf) (.seq (.block none (.seq qd (.seq qd (.cond none (.seq qd .leaf) .leaf)))) qd)))))) (.seq qd (.block none (.loop ⟨([9]++rg 57 14),[(56,.int .i64)],[]⟩ (.seq qd (.seq (.cond none .leaf .leaf) (.seq (.block none (.seq qd (.seq (.seq (.reg ⟨.done,false,[],[],(some ⟨(rg 60 7),[(67,.bool)],[]⟩)⟩) (.cond none (.seq qd .leaf) .leaf)) qd))) qd)))))))))) qd)))))) (.seq qd (.seq (.seq qd (.block none (.loop ⟨([11,12,13]++rg 78 37),[(77,.int .i64)],[]⟩ (.seq qd (.seq (.cond none .leaf .leaf) (.seq (.block none (.seq qd (.seq qd (.seq (.reg ⟨.done,false,[],[],(some ⟨(rg 85 28),[(113,.bool)],[]⟩)⟩) (.cond none (.seq qd .leaf) .leaf))))) qd)))))) (.seq qd .leaf)))))))
theorem LM {a0_0:Sl} {V:View} {Q:Value→View→Prop} (h:Gn a0_0 V Q):af Tryz.prog 18 ⟨[(.agg ⟨[(.slice a0_0.a a0_0.n a0_0.c)]⟩)]⟩ V Q:=
 obx false Tryz.f18 Is (by kernel_rfl) (by kernel_rfl) (by kernel_rfl) (by kernel_rfl) h
def Gp (a0_0:Sl) (V:View) (Q:Value→View→Prop):Prop:=
 ∀(b:Nat),af Tryz.prog 43 ⟨[.agg ⟨[.slice a0_0.a a0_0.n a0_0.c]⟩]⟩ V fun r V=>∃x:Bool,r= .bool x∧br (!x) (Q (.int .i64 0) V) (aG [K.int .i64,K.int .i64] (fun(x x_1:Int) (V:View) (J:c7 [K.int .i64,K.int .i64])=>br (decide (x_1<(a0_0.n:Int))) (0≤x_1∧x_1<(a0_0.n:Int)∧∃ad:Addr,a0_0.a=some ad∧∃x_2 x_3 x_4:Int,∃x_5 x_6:Sl,aq V (ad.add (x_1.toNat*5)) [.int .i64 x_2,.int .i64 x_3,.int .i64 x_4,.slice x_5.a x_5.n x_5.c,.slice x_6.a x_6.n x_6.c]∧∀(b:Nat),af Tryz.prog 44 ⟨[.agg ⟨[.int .i64 x_2,.int .i64 x_3,.int .i64 x_4,.slice x_5.a x_5.n x_5.c,.slice x_6.a x_6.n x_6.c]⟩]⟩ V fun r V=>∃x_7:Int,r= .int .i64 x_7∧inI .i64 (x+x_7)∧inI .i64 (x_1+1)∧J (x+x_7) (x_1+1) V) (Q (.int .i64 x) V)) ((0:Int),(0:Int),()) V)
def It:AC:=(.seq qd (.seq qd (.seq (.seq qd (.cond none (.seq qd .leaf) .leaf)) (.seq (.seq qd (.block none (.loop ⟨([5]++rg 13 8),[(3,.int .i64),(12,.int .i64)],[]⟩ (.seq qd (.seq (.cond none .leaf .leaf) (.seq (.block none (.seq qd qd)) qd)))))) (.seq qd .leaf)))))
theorem LN {a0_0:Sl} {V:View} {Q:Value→View→Prop} (h:Gp a0_0 V Q):af Tryz.prog 19 ⟨[(.agg ⟨[(.slice a0_0.a a0_0.n a0_0.c)]⟩)]⟩ V Q:=
 obx false Tryz.f19 It (by kernel_rfl) (by kernel_rfl) (by kernel_rfl) (by kernel_rfl) h
def Gq (a0_0:Sl) (V:View) (Q:Value→View→Prop):Prop:=
 ∀(b:Nat),af Tryz.prog 43 ⟨[.agg ⟨[.slice a0_0.a a0_0.n a0_0.c]⟩]⟩ V fun r V=>∃x:Bool,r= .bool x∧br (!x) (Q (.int .i64 0) V) (aG [K.int .i64,K.int .i64] (fun(x x_1:Int) (V:View) (J:c7 [K.int .i64,K.int .i64])=>br (decide (x_1<(a0_0.n:Int))) (0≤x_1∧x_1<(a0_0.n:Int)∧∃ad:Addr,a0_0.a=some ad∧∃x_2 x_3 x_4:Int,∃x_5 x_6:Sl,aq V (ad.add (x_1.toNat*5)) [.int .i64 x_2,.int .i64 x_3,.int .i64 x_4,.slice x_5.a x_5.n x_5.c,.slice x_6.a x_6.n x_6.c]∧∀(b:Nat),aA [K.int .i64] (fun J=>br (decide (x_2=0)) (inI .i64 (x+1)∧J (x+1) V) (J x V)) fun(x:Int) V=>inI .i64 (x_1+1)∧J x (x_1+1) V) (Q (.int .i64 x) V)) ((0:Int),(0:Int),()) V)
def Iu:AC:=(.seq qd (.seq qd (.seq (.seq qd (.cond none (.seq qd .leaf) .leaf)) (.seq (.seq qd (.block none (.loop ⟨([5]++rg 13 9),[(3,.int .i64),(12,.int .i64)],[]⟩ (.seq qd (.seq (.cond none .leaf .leaf) (.seq (.block none (.seq qd (.seq qd (.cond (some ⟨[19,20],[(3,.int .i64)],[]⟩) qd .leaf)))) qd)))))) (.seq qd .leaf)))))
theorem LO {a0_0:Sl} {V:View} {Q:Value→View→Prop} (h:Gq a0_0 V Q):af Tryz.prog 20 ⟨[(.agg ⟨[(.slice a0_0.a a0_0.n a0_0.c)]⟩)]⟩ V Q:=
 obx false Tryz.f20 Iu (by kernel_rfl) (by kernel_rfl) (by kernel_rfl) (by kernel_rfl) h
def Gr (a0:Int) (V:View) (Q:Value→View→Prop):Prop:=
 af Tryz.prog 45 ⟨[]⟩ V fun r V=>∃x:Sl,r= .agg ⟨[.slice x.a x.n x.c]⟩∧af Tryz.prog 46 ⟨[]⟩ V fun r V=>∃x_1:Sl,r= .slice x_1.a x_1.n x_1.c∧∀(b:Nat),V.see b=none→Q (.pointer (some (Addr.mk b 0 none))) (V.put b (Obj.cells ⟨[.int .i64 a0,.slice x.a x.n x.c,.slice x_1.a x_1.n x_1.c,.int .i64 0,.slice none 0 0,.slice none 0 0,.slice none 0 0,.slice none 0 0,.slice none 0 0,.slice none 0 0,.slice none 0 0,.slice none 0 0,.slice none 0 0,.slice none 0 0,.slice none 0 0,.slice none 0 0,.slice none 0 0,.slice none 0 0,.slice none 0 0,.slice none 0 0,.slice none 0 0,.slice none 0 0,.slice none 0 0,.slice none 0 0,.slice none 0 0,.slice none 0 0,.slice none 0 0,.slice none 0 0,.slice none 0 0,.slice none 0 0,.slice none 0 0,.slice none 0 0,.slice none 0 0,.slice none 0 0,.slice none 0 0,.slice none 0 0,.slice none 0 0,.slice none 0 0,.slice none 0 0,.slice none 0 0,.slice none 0 0,.slice none 0 0,.slice none 0 0,.slice none 0 0,.slice none 0 0,.slice none 0 0,.slice none 0 0,.slice none 0 0,.slice none 0 0,.slice none 0 0,.slice none 0 0,.slice none 0 0,.slice none 0 0,.slice none 0 0,.slice none 0 0,.slice none 0 0,.slice none 0 0,.slice none 0 0,.slice none 0 0,.slice none 0 0,.slice none 0 0,.slice none 0 0,.slice none 0 0,.slice none 0 0]⟩ (56:Nat)))
def Iv:AC:=(.seq qd (.seq (.reg ⟨.done,false,[(5,0)],[],none⟩) .leaf))
theorem LP {a0:Int} {V:View} {Q:Value→View→Prop} (h:Gr a0 V Q):af Tryz.prog 21 ⟨[(.int .i64 a0)]⟩ V Q:=
 obx false Tryz.f21 Iv (by kernel_rfl) (by kernel_rfl) (by kernel_rfl) (by kernel_rfl) h
def Gs (a0:Option Addr) (V:View) (Q:Value→View→Prop):Prop:=
 br (Option.isNone a0) (Q (Value.tuple ⟨[]⟩) V) (af Tryz.prog 33 ⟨[]⟩ V fun r V=>∃x:Sl,r= .slice x.a x.n x.c∧∃a:Addr,a0=some a∧ay V (a.add (2:Nat)) (nat_lit 1)∧∃a_1:Addr,a0=some a_1∧∃x_1:Sl,View.cell? (V.sets (a.add (2:Nat)) [.slice x.a x.n x.c]) (Addr.add (a_1.add (1:Nat)) (0:Nat))=some (.slice x_1.a x_1.n x_1.c)∧aG [K.int .i64] (fun(x:Int) V J=>br (decide (x<(x_1.n:Int))) (∃a:Addr,a0=some a∧∃x_2:Sl,aq V (a.add (1:Nat)) [.slice x_2.a x_2.n x_2.c]∧af Tryz.prog 47 ⟨[.agg ⟨[.slice x_2.a x_2.n x_2.c]⟩,.int .i64 x]⟩ V fun r V=>∃x_3:Sl,∃x_4:Int,r=Value.tuple ⟨[.agg ⟨[.slice x_3.a x_3.n x_3.c]⟩,.int .i64 x_4]⟩∧∀(b:Nat),aA [] (fun J=>br (decide (x_4=0)) (∃a:Addr,a0=some a∧ay V (a.add (1:Nat)) (nat_lit 1)∧J (V.sets (a.add (1:Nat)) [.slice x_3.a x_3.n x_3.c])) (J V)) fun(V:View)=>inI .i64 (x+1)∧J (x+1) V) (Q (Value.tuple ⟨[]⟩) V)) ((0:Int),()) (V.sets (a.add (2:Nat)) [.slice x.a x.n x.c]))
def Iw:AC:=(.seq (.seq qd (.cond none .leaf .leaf)) (.seq qd (.seq qd (.block none (.loop ⟨([2,3,4]++rg 18 18),[(17,.int .i64)],[]⟩ (.seq qd (.seq (.cond none .leaf .leaf) (.seq (.block none (.seq qd (.seq qd (.seq qd (.cond (some ⟨(rg 31 4),[],[]⟩) qd .leaf))))) qd))))))))
theorem LQ {a0:Option Addr} {V:View} {Q:Value→View→Prop} (h:Gs a0 V Q):af Tryz.prog 22 ⟨[(.pointer a0)]⟩ V Q:=
 obx false Tryz.f22 Iw (by kernel_rfl) (by kernel_rfl) (by kernel_rfl) (by kernel_rfl) h
def Gt (a0:Option Addr) (V:View) (Q:Value→View→Prop):Prop:=
 ∃a:Addr,a0=some a∧∃x:Sl,aq V (a.add (1:Nat)) [.slice x.a x.n x.c]∧af Tryz.prog 48 ⟨[.agg ⟨[.slice x.a x.n x.c]⟩]⟩ V fun r V=>∃x:Sl,r= .agg ⟨[.slice x.a x.n x.c]⟩∧af Tryz.prog 46 ⟨[]⟩ V fun r V=>∃x_1:Sl,r= .slice x_1.a x_1.n x_1.c∧∃a:Addr,a0=some a∧ay V (a.add (1:Nat)) (nat_lit 1)∧∃a_1:Addr,a0=some a_1∧ay (V.sets (a.add (1:Nat)) [.slice x.a x.n x.c]) (a_1.add (2:Nat)) (nat_lit 1)∧Q (Value.tuple ⟨[]⟩) (View.sets (V.sets (a.add (1:Nat)) [.slice x.a x.n x.c]) (a_1.add (2:Nat)) [.slice x_1.a x_1.n x_1.c])
def Ix:AC:=qd
theorem LR {a0:Option Addr} {V:View} {Q:Value→View→Prop} (h:Gt a0 V Q):af Tryz.prog 23 ⟨[(.pointer a0)]⟩ V Q:=
 obx false Tryz.f23 Ix (by kernel_rfl) (by kernel_rfl) (by kernel_rfl) (by kernel_rfl) h
def Gu (a0:Option Addr) (a1_0:Int) (a1_1:ByteArray) (a1_2:ByteArray) (a1_3:Int) (a1_4:Int) (a1_5:Int) (a1_6:Sl) (V:View) (Q:Value→View→Prop):Prop:=
 ∀(b b:Nat),aA [K.bool] (fun J=>br (decide (a1_0=1)) (J (decide (a1_0=1)) V) (aA [K.bool] (fun J=>br (decide (a1_0=2)) (J (decide (a1_0=2)) V) (aA [K.bool] (fun J=>br (decide (a1_0=3)) (J (decide (a1_0=3)) V) (aA [K.bool] (fun J=>br (decide (a1_0=4)) (J (decide (a1_0=4)) V) (aA [K.bool] (fun J=>br (decide (a1_0=5)) (J (decide (a1_0=5)) V) (J (decide (a1_0=6)) V)) fun x V=>J x V)) fun x V=>J x V)) fun x V=>J x V)) fun x V=>J x V)) fun x V=>br x (af Tryz.prog 49 ⟨[.pointer a0,.agg ⟨[.int .i64 a1_0,.string a1_1,.string a1_2,.int .i64 a1_3,.int .i64 a1_4,.int .i64 a1_5,.slice a1_6.a a1_6.n a1_6.c]⟩]⟩ V fun r V=>∃x x_1 x_2 x_3 x_4:Int,∃x_5 x_6:Sl,∃x_7:Bool,r=Value.tuple ⟨[.agg ⟨[.int .i64 x,.int .i64 x_1,.int .i64 x_2,.int .i64 x_3,.int .i64 x_4,.slice x_5.a x_5.n x_5.c,.slice x_6.a x_6.n x_6.c]⟩,.bool x_7]⟩∧Q (Value.tuple ⟨[.agg ⟨[.int .i64 x,.int .i64 x_1,.int .i64 x_2,.int .i64 x_3,.int .i64 x_4,.slice x_5.a x_5.n x_5.c,.slice x_6.a x_6.n x_6.c]⟩,.bool x_7]⟩) V) (aA [K.bool] (fun J=>br (decide (a1_0=7)) (J (decide (a1_0=7)) V) (aA [K.bool] (fun J=>br (decide (a1_0=8)) (J (decide (a1_0=8)) V) (J (decide (a1_0=9)) V)) fun x V=>J x V)) fun x V=>br x (af Tryz.prog 50 ⟨[.pointer a0,.agg ⟨[.int .i64 a1_0,.string a1_1,.string a1_2,.int .i64 a1_3,.int .i64 a1_4,.int .i64 a1_5,.slice a1_6.a a1_6.n a1_6.c]⟩]⟩ V fun r V=>∃x x_1 x_2 x_3 x_4:Int,∃x_5 x_6:Sl,r= .agg ⟨[.int .i64 x,.int .i64 x_1,.int .i64 x_2,.int .i64 x_3,.int .i64 x_4,.slice x_5.a x_5.n x_5.c,.slice x_6.a x_6.n x_6.c]⟩∧Q (Value.tuple ⟨[.agg ⟨[.int .i64 x,.int .i64 x_1,.int .i64 x_2,.int .i64 x_3,.int .i64 x_4,.slice x_5.a x_5.n x_5.c,.slice x_6.a x_6.n x_6.c]⟩,.bool false]⟩) V) (br (decide (a1_0=10)) (True∧∃S:View,S.Le V∧∃a:Addr,a0=some a∧∃x:Sl,S.cell? (a.add (2:Nat))=some (.slice x.a x.n x.c)∧af Tryz.prog 51 ⟨[.slice x.a x.n x.c,.int .i64 a1_3]⟩ V fun r V=>∃x:Sl,∃x_1 x_2:Int,r=Value.tuple ⟨[.slice x.a x.n x.c,.int .i64 x_1,.int .i64 x_2]⟩∧br (!decide (x_2=0)) (Q (Value.tuple ⟨[.agg ⟨[.int .i64 x_2,.int .i64 0,.int .i64 0,.int .i64 0,.int .i64 0,.slice none 0 0,.slice none 0 0]⟩,.bool false]⟩) V) (∃a:Addr,a0=some a∧ay V (a.add (2:Nat)) (nat_lit 1)∧aA [K.bool] (fun J=>∃a_1:Addr,a0=some a_1∧∃x_3:Sl,View.cell? (V.sets (a.add (2:Nat)) [.slice x.a x.n x.c]) (Addr.add (a_1.add (1:Nat)) (0:Nat))=some (.slice x_3.a x_3.n x_3.c)∧0≤x_1∧x_1<(x_3.n:Int)∧∃ad:Addr,x_3.a=some ad∧∃x_4:Int,View.cell? (V.sets (a.add (2:Nat)) [.slice x.a x.n x.c]) (Addr.add (ad.add (x_1.toNat*5)) (1:Nat))=some (.int .i64 x_4)∧br (decide (0<x_4)) (J true (V.sets (a.add (2:Nat)) [.slice x.a x.n x.c])) (af Tryz.prog 52 ⟨[.slice x.a x.n x.c]⟩ (V.sets (a.add (2:Nat)) [.slice x.a x.n x.c]) fun r V=>∃x:Sl,r= .slice x.a x.n x.c∧0≤x_1∧x_1<(x.n:Int)∧∃ad:Addr,x.a=some ad∧∃x:Bool,V.cell? (ad.add (x_1.toNat*1))=some (.bool x)∧J x V)) fun x V=>br x (Q (Value.tuple ⟨[.agg ⟨[.int .i64 0,.int .i64 0,.int .i64 0,.int .i64 0,.int .i64 0,.slice none 0 0,.slice none 0 0]⟩,.bool false]⟩) V) (∃a:Addr,a0=some a∧∃x:Sl,aq V (a.add (1:Nat)) [.slice x.a x.n x.c]∧af Tryz.prog 53 ⟨[.agg ⟨[.slice x.a x.n x.c]⟩,.int .i64 x_1]⟩ V fun r V=>∃x:Sl,∃x_3:Int,r=Value.tuple ⟨[.agg ⟨[.slice x.a x.n x.c]⟩,.int .i64 x_3]⟩∧∃a:Addr,a0=some a∧ay V (a.add (1:Nat)) (nat_lit 1)∧Q (Value.tuple ⟨[.agg ⟨[.int .i64 0,.int .i64 0,.int .i64 0,.int .i64 0,.int .i64 0,.slice none 0 0,.slice none 0 0]⟩,.bool true]⟩) (V.sets (a.add (1:Nat)) [.slice x.a x.n x.c])))) (aA [K.bool] (fun J=>br (decide (a1_0=11)) (J (decide (a1_0=11)) V) (aA [K.bool] (fun J=>br (decide (a1_0=12)) (J (decide (a1_0=12)) V) (J (decide (a1_0=13)) V)) fun x V=>J x V)) fun x V=>br x (af Tryz.prog 54 ⟨[.pointer a0,.agg ⟨[.int .i64 a1_0,.string a1_1,.string a1_2,.int .i64 a1_3,.int .i64 a1_4,.int .i64 a1_5,.slice a1_6.a a1_6.n a1_6.c]⟩]⟩ V fun r V=>∃x x_1 x_2 x_3 x_4:Int,∃x_5 x_6:Sl,∃x_7:Bool,r=Value.tuple ⟨[.agg ⟨[.int .i64 x,.int .i64 x_1,.int .i64 x_2,.int .i64 x_3,.int .i64 x_4,.slice x_5.a x_5.n x_5.c,.slice x_6.a x_6.n x_6.c]⟩,.bool x_7]⟩∧Q (Value.tuple ⟨[.agg ⟨[.int .i64 x,.int .i64 x_1,.int .i64 x_2,.int .i64 x_3,.int .i64 x_4,.slice x_5.a x_5.n x_5.c,.slice x_6.a x_6.n x_6.c]⟩,.bool x_7]⟩) V) (br (decide (a1_0=14)) (Q (Value.tuple ⟨[.agg ⟨[.int .i64 0,.int .i64 0,.int .i64 0,.int .i64 0,.int .i64 0,.slice none 0 0,.slice none 0 0]⟩,.bool false]⟩) V) (br (decide (a1_0=15)) (True∧∃S:View,S.Le V∧∃a:Addr,a0=some a∧∃x:Sl,aq S (a.add (1:Nat)) [.slice x.a x.n x.c]∧∃a:Addr,a0=some a∧∃x_1:Int,S.cell? (a.add (0:Nat))=some (.int .i64 x_1)∧∃a:Addr,a0=some a∧∃x_2:Sl,aq S (a.add (1:Nat)) [.slice x_2.a x_2.n x_2.c]∧af Tryz.prog 55 ⟨[.agg ⟨[.slice x.a x.n x.c]⟩,.int .i64 x_1]⟩ V fun r V=>∃x:Int,r= .int .i64 x∧S.Le V∧af Tryz.prog 20 ⟨[.agg ⟨[.slice x_2.a x_2.n x_2.c]⟩]⟩ V fun r V=>∃x_3:Int,r= .int .i64 x_3∧Q (Value.tuple ⟨[.agg ⟨[.int .i64 0,.int .i64 0,.int .i64 x,.int .i64 0,.int .i64 x_3,.slice none 0 0,.slice none 0 0]⟩,.bool false]⟩) V) (Q (Value.tuple ⟨[.agg ⟨[.int .i64 1,.int .i64 0,.int .i64 0,.int .i64 0,.int .i64 0,.slice none 0 0,.slice none 0 0]⟩,.bool false]⟩) V))))))
def Iy:AC:=(.seq qd (.seq (.seq qd (.block none (.seq (.seq qd (.cond (some ⟨(rg 13 5),[(11,.bool)],[]⟩) .leaf (.seq qd (.cond (some ⟨(rg 14 4),[(11,.bool)],[]⟩) .leaf (.seq qd (.cond (some ⟨[15,16,17],[(11,.bool)],[]⟩) .leaf (.seq qd (.cond (some ⟨[16,17],[(11,.bool)],[]⟩) .leaf (.seq qd (.cond (some ⟨[17],[(11,.bool)],[]⟩) .leaf qd)))))))))) (.cond none (.seq qd .leaf) (.seq (.seq qd (.cond (some ⟨[25,26],[(23,.bool)],[]⟩) .leaf (.seq qd (.cond (some ⟨[26],[(23,.bool)],[]⟩) .leaf qd)))) (.cond none (.seq qd .leaf) (.seq qd (.cond none (.seq (.reg ⟨(.fl 0 (.fl 1 (.fl 2 (.fl 3 (.fl 4 (.fl 5 (.alt 6 false false (.fl 7 (.fl 8 (.fl 9 (.fl 10 (.fl 11 (.fl 12 (.fl 13 .done))))))) .no))))))),true,[],[],none⟩) (.seq (.seq qd (.cond none (.seq qd .leaf) .leaf)) (.seq qd (.seq (.seq (.reg ⟨.done,false,[],[],(some ⟨(rg 51 16),[(67,.bool)],[]⟩)⟩) (.cond none (.seq qd .leaf) .leaf)) (.seq qd (.seq qd .leaf)))))) (.seq (.seq qd (.cond (some ⟨[84,85],[(82,.bool)],[]⟩) .leaf (.seq qd (.cond (some ⟨[85],[(82,.bool)],[]⟩) .leaf qd)))) (.cond none (.seq qd .leaf) (.seq qd (.cond none (.seq qd .leaf) (.seq qd (.cond none (.seq (.reg ⟨(.fl 0 (.fl 1 (.fl 2 (.fl 3 (.fl 4 (.fl 5 (.fl 6 (.fl 7 (.fl 9 (.fl 10 (.fl 11 (.fl 12 (.alt 8 true false (.alt 13 false false (.fl 14 (.alt 15 false false (.fl 16 .done) .no)) .no) .no))))))))))))),true,[],[],none⟩) .leaf) .leaf)))))))))))))) (.seq qd .leaf)))
theorem LS {a0:Option Addr} {a1_0:Int} {a1_1:ByteArray} {a1_2:ByteArray} {a1_3:Int} {a1_4:Int} {a1_5:Int} {a1_6:Sl} {V:View} {Q:Value→View→Prop} (h:Gu a0 a1_0 a1_1 a1_2 a1_3 a1_4 a1_5 a1_6 V Q):af Tryz.prog 24 ⟨[(.pointer a0),(.agg ⟨[(.int .i64 a1_0),(.string a1_1),(.string a1_2),(.int .i64 a1_3),(.int .i64 a1_4),(.int .i64 a1_5),(.slice a1_6.a a1_6.n a1_6.c)]⟩)]⟩ V Q:=
 obx false Tryz.f24 Iy (by kernel_rfl) (by kernel_rfl) (by kernel_rfl) (by kernel_rfl) h
def Gv (a0_0:Int) (a0_1:Int) (a0_2:Int) (a0_3:Int) (a0_4:Int) (a0_5:Sl) (a0_6:Sl) (a1_0:Int) (a1_1:Int) (a1_2:Int) (a1_3:Int) (a1_4:Int) (a1_5:Sl) (a1_6:Sl) (V:View) (Q:Value→View→Prop):Prop:=
 ∀(b b:Nat),br (!decide ((a0_6.n:Int)=(a1_6.n:Int))) (Q (.bool false) V) (aG [K.int .i64] (fun(x:Int) V J=>br (decide (x<(a0_6.n:Int))) (True∧∃S:View,S.Le V∧0≤x∧x<(a0_6.n:Int)∧∃ad:Addr,a0_6.a=some ad∧∃x_1:ByteArray,S.cell? (ad.add (x.toNat*1))=some (.string x_1)∧0≤x∧x<(a1_6.n:Int)∧∃ad:Addr,a1_6.a=some ad∧∃x_2:ByteArray,S.cell? (ad.add (x.toNat*1))=some (.string x_2)∧br (!decide (x_1=x_2)) (Q (.bool false) V) (inI .i64 (x+1)∧J (x+1) V)) (aA [K.bool] (fun J=>br (bif bif bif bif decide (a0_0=a1_0)then decide (a0_1=a1_1)else false then decide (a0_2=a1_2)else false then decide (a0_3=a1_3)else false then decide (a0_4=a1_4)else false) (∃b:ByteArray,rowAt V a0_5.a a0_5.n (dw b)∧∃b_1:ByteArray,rowAt V a1_5.a a1_5.n (dw b_1)∧J (decide (b=b_1)) V) (J false V)) fun x V=>Q (.bool x) V)) ((0:Int),()) V)
def Iz:AC:=(.seq qd (.seq (.seq qd (.cond none (.seq qd .leaf) .leaf)) (.seq (.seq qd (.block none (.loop ⟨([5]++rg 17 14),[(16,.int .i64)],[]⟩ (.seq qd (.seq (.cond none .leaf .leaf) (.seq (.block none (.seq qd (.seq (.reg ⟨(.fl 0 (.fl 1 (.fl 2 (.fl 3 (.fl 4 (.fl 5 (.fl 6 (.fl 7 (.fl 8 (.fl 9 (.fl 10 .done))))))))))),true,[],[],none⟩) (.cond none (.seq qd .leaf) .leaf)))) qd)))))) (.seq (.reg ⟨.done,false,[],[],(some ⟨(rg 31 42),[(4,.bool)],[]⟩)⟩) .leaf))))
theorem LU {a0_0:Int} {a0_1:Int} {a0_2:Int} {a0_3:Int} {a0_4:Int} {a0_5:Sl} {a0_6:Sl} {a1_0:Int} {a1_1:Int} {a1_2:Int} {a1_3:Int} {a1_4:Int} {a1_5:Sl} {a1_6:Sl} {V:View} {Q:Value→View→Prop} (h:Gv a0_0 a0_1 a0_2 a0_3 a0_4 a0_5 a0_6 a1_0 a1_1 a1_2 a1_3 a1_4 a1_5 a1_6 V Q):af Tryz.prog 25 ⟨[(.agg ⟨[(.int .i64 a0_0),(.int .i64 a0_1),(.int .i64 a0_2),(.int .i64 a0_3),(.int .i64 a0_4),(.slice a0_5.a a0_5.n a0_5.c),(.slice a0_6.a a0_6.n a0_6.c)]⟩),(.agg ⟨[(.int .i64 a1_0),(.int .i64 a1_1),(.int .i64 a1_2),(.int .i64 a1_3),(.int .i64 a1_4),(.slice a1_5.a a1_5.n a1_5.c),(.slice a1_6.a a1_6.n a1_6.c)]⟩)]⟩ V Q:=
 obx false Tryz.f25 Iz (by kernel_rfl) (by kernel_rfl) (by kernel_rfl) (by kernel_rfl) h
def Bo (a0:Sl) (a1:Sl) (V:View) (Q:Value→View→Prop):Prop:=
 br (!decide ((a0.n:Int)=(a1.n:Int))) (Q (.bool false) V) (aG [K.int .i64] (fun(x:Int) V J=>br (decide (x<(a0.n:Int))) (True∧∃S:View,S.Le V∧0≤x∧x<(a0.n:Int)∧∃ad:Addr,a0.a=some ad∧∃x_1:Int,S.cell? (ad.add (x.toNat*1))=some (.int .i64 x_1)∧0≤x∧x<(a1.n:Int)∧∃ad:Addr,a1.a=some ad∧∃x_2:Int,S.cell? (ad.add (x.toNat*1))=some (.int .i64 x_2)∧br (!decide (x_1=x_2)) (Q (.bool false) V) (inI .i64 (x+1)∧J (x+1) V)) (Q (.bool true) V)) ((0:Int),()) V)
def IA:AC:=(.seq qd (.seq (.seq qd (.cond none (.seq qd .leaf) .leaf)) (.seq (.seq qd (.block none (.loop ⟨([5]++rg 14 12),[(13,.int .i64)],[]⟩ (.seq qd (.seq (.cond none .leaf .leaf) (.seq (.block none (.seq qd (.seq (.reg ⟨(.fl 0 (.fl 1 (.fl 2 (.fl 3 (.fl 4 (.fl 5 (.fl 6 (.fl 7 (.fl 8 .done))))))))),true,[],[],none⟩) (.cond none (.seq qd .leaf) .leaf)))) qd)))))) (.seq qd .leaf))))
theorem Gw {a0:Sl} {a1:Sl} {V:View} {Q:Value→View→Prop} (h:Bo a0 a1 V Q):af Tryz.prog 26 ⟨[(.slice a0.a a0.n a0.c),(.slice a1.a a1.n a1.c)]⟩ V Q:=
 obx false Tryz.f26 IA (by kernel_rfl) (by kernel_rfl) (by kernel_rfl) (by kernel_rfl) h
def Gx (a0:Option Addr) (V:View) (Q:Value→View→Prop):Prop:=
 br (Option.isNone a0) (Q (.slice none 0 0) V) (∃a:Addr,a0=some a∧∃x:Sl,V.cell? (a.add (2:Nat))=some (.slice x.a x.n x.c)∧af Tryz.prog 56 ⟨[.slice x.a x.n x.c]⟩ V fun r V=>∃x:Sl,r= .slice x.a x.n x.c∧Q (.slice x.a x.n x.c) V)
def IB:AC:=(.seq qd (.seq (.seq qd (.cond none (.seq qd .leaf) .leaf)) (.seq qd .leaf)))
theorem LV {a0:Option Addr} {V:View} {Q:Value→View→Prop} (h:Gx a0 V Q):af Tryz.prog 27 ⟨[(.pointer a0)]⟩ V Q:=
 obx false Tryz.f27 IB (by kernel_rfl) (by kernel_rfl) (by kernel_rfl) (by kernel_rfl) h
def Gy (a0:Option Addr) (a1:Int) (V:View) (Q:Value→View→Prop):Prop:=
 aA [K.bool] (fun J=>br (bif Option.isNone a0 then true else decide (a1<0)) (J true V) (∃a:Addr,a0=some a∧∃x:Sl,V.cell? (Addr.add (a.add (1:Nat)) (0:Nat))=some (.slice x.a x.n x.c)∧J (decide ((x.n:Int)≤a1)) V)) fun x V=>br x (Q (.slice none 0 0) V) (∃a:Addr,a0=some a∧∃x:Sl,V.cell? (Addr.add (a.add (1:Nat)) (0:Nat))=some (.slice x.a x.n x.c)∧0≤a1∧a1<(x.n:Int)∧∃ad:Addr,x.a=some ad∧∃x x_1 x_2:Int,∃x_3 x_4:Sl,aq V (ad.add (a1.toNat*5)) [.int .i64 x,.int .i64 x_1,.int .i64 x_2,.slice x_3.a x_3.n x_3.c,.slice x_4.a x_4.n x_4.c]∧∀(b:Nat),br (!decide (x=1)) (Q (.slice none 0 0) V) (af Tryz.prog 57 ⟨[.int .i64 0,.int .i64 x_2]⟩ V fun r V=>∃x:Sl,r= .slice x.a x.n x.c∧aG [K.sl,K.int .i64] (fun(x_5:Sl) (x_6:Int) (V:View) (J:c7 [K.sl,K.int .i64])=>br (decide (x_6<(x.n:Int))) (0≤x_6∧x_6<(x.n:Int)∧∃ad:Addr,x.a=some ad∧∃x x_7 x_8:Int,aq V (ad.add (x_6.toNat*3)) [.int .i64 x,.int .i64 x_7,.int .i64 x_8]∧∀(b:Nat),True∧∃S:View,S.Le V∧0≤x∧x<(x_3.n:Int)∧∃ad:Addr,x_3.a=some ad∧∃x_9:Int,S.cell? (ad.add (x.toNat*1))=some (.int .i64 x_9)∧af Tryz.prog 36 ⟨[.pointer a0,.int .i64 x_9]⟩ V fun r V=>∃x:Sl,r= .slice x.a x.n x.c∧S.Le V∧(0:Int)≤0∧0≤x_8∧x_8≤(↑x.c:Int)∧apV V (5:Nat) (1:Nat) (1:Nat) [.int .u8 0] (Sl.mk x_5.a x_5.n x_5.c) (.slice (if x.c=(0:Nat)then x.a else Option.map (fun(x:Addr)=>x.add (0:Nat)) x.a) (x_8.toNat-(0:Nat)) (x.c-(0:Nat))) fun s V=>inI .i64 (x_6+1)∧J (Sl.mk s.a s.n s.c) (x_6+1) V) (Q (.slice x_5.a x_5.n x_5.c) V)) (Sl.mk none (0:Nat) (0:Nat),(0:Int),()) V))
def IC:AC:=(.seq qd (.seq (.seq (.reg ⟨.done,false,[],[],(some ⟨(rg 9 15),[(24,.bool)],[]⟩)⟩) (.cond none (.seq qd .leaf) .leaf)) (.seq qd (.seq (.seq qd (.cond none (.seq qd .leaf) .leaf)) (.seq qd (.seq (.seq qd (.block none (.loop ⟨([8]++rg 41 17),[(6,.sl),(40,.int .i64)],[]⟩ (.seq qd (.seq (.cond none .leaf .leaf) (.seq (.block none (.seq qd (.reg ⟨(.fl 0 (.fl 1 (.fl 2 (.fl 3 (.fl 4 (.fl 5 (.fl 6 (.fl 7 (.fl 9 (.fl 10 (.alt 8 true false (.fl 11 (.alt 12 false false (.fl 13 .done) .no)) .no))))))))))),true,[],[],none⟩))) qd)))))) (.seq qd .leaf)))))))
theorem LW {a0:Option Addr} {a1:Int} {V:View} {Q:Value→View→Prop} (h:Gy a0 a1 V Q):af Tryz.prog 28 ⟨[(.pointer a0),(.int .i64 a1)]⟩ V Q:=
 obx false Tryz.f28 IC (by kernel_rfl) (by kernel_rfl) (by kernel_rfl) (by kernel_rfl) h
def Gz (a0:Option Addr) (a1:Int) (V:View) (Q:Value→View→Prop):Prop:=
 aA [K.bool] (fun J=>br (decide (a1<0)) (J true V) (∃a:Addr,a0=some a∧∃x:Sl,V.cell? (Addr.add (a.add (1:Nat)) (0:Nat))=some (.slice x.a x.n x.c)∧br (decide ((x.n:Int)≤a1)) (J true V) (∃a:Addr,a0=some a∧∃x:Sl,V.cell? (Addr.add (a.add (1:Nat)) (0:Nat))=some (.slice x.a x.n x.c)∧0≤a1∧a1<(x.n:Int)∧∃ad:Addr,x.a=some ad∧∃x:Int,V.cell? (Addr.add (ad.add (a1.toNat*5)) (0:Nat))=some (.int .i64 x)∧J (!decide (x=1)) V))) fun x V=>br x (Q (.slice none 0 0) V) (aG [K.sl,K.int .i64] (fun(x:Sl) (x_1:Int) (V:View) (J:c7 [K.sl,K.int .i64])=>br (decide (x_1<5)) (af Tryz.prog 58 ⟨[.pointer a0,.int .i64 a1,.int .i64 x_1]⟩ V fun r V=>∃x_2:Sl,r= .slice x_2.a x_2.n x_2.c∧apV V (5:Nat) (1:Nat) (1:Nat) [.int .u8 0] (Sl.mk x.a x.n x.c) (.slice x_2.a x_2.n x_2.c) fun s V=>inI .i64 (x_1+1)∧J (Sl.mk s.a s.n s.c) (x_1+1) V) (∃a:Addr,a0=some a∧∃x_2:Sl,V.cell? (Addr.add (a.add (1:Nat)) (0:Nat))=some (.slice x_2.a x_2.n x_2.c)∧0≤a1∧a1<(x_2.n:Int)∧∃ad:Addr,x_2.a=some ad∧∃x_3:Int,V.cell? (Addr.add (ad.add (a1.toNat*5)) (2:Nat))=some (.int .i64 x_3)∧(0:Int)≤0∧0≤x_3∧x_3≤(↑x.c:Int)∧Q (.slice (if x.c=(0:Nat)then x.a else Option.map (fun(x:Addr)=>x.add (0:Nat)) x.a) (x_3.toNat-(0:Nat)) (x.c-(0:Nat))) V)) (Sl.mk none (0:Nat) (0:Nat),(0:Int),()) V)
def ID:AC:=(.seq qd (.seq (.seq (.reg ⟨.done,false,[],[],(some ⟨(rg 7 23),[(30,.bool)],[]⟩)⟩) (.cond none (.seq qd .leaf) .leaf)) (.seq qd (.seq (.seq qd (.block none (.loop ⟨([6]++rg 32 9),[(5,.sl),(31,.int .i64)],[]⟩ (.seq qd (.seq (.cond none .leaf .leaf) (.seq (.block none (.seq qd qd)) qd)))))) (.seq qd .leaf)))))
theorem LX {a0:Option Addr} {a1:Int} {V:View} {Q:Value→View→Prop} (h:Gz a0 a1 V Q):af Tryz.prog 29 ⟨[(.pointer a0),(.int .i64 a1)]⟩ V Q:=
 obx false Tryz.f29 ID (by kernel_rfl) (by kernel_rfl) (by kernel_rfl) (by kernel_rfl) h
def GA (a0_0:Int) (a0_1:Int) (a0_2:Int) (a0_3:Sl) (a0_4:Sl) (a1_0:Int) (a1_1:Int) (a1_2:Int) (a1_3:Sl) (a1_4:Sl) (V:View) (Q:Value→View→Prop):Prop:=
 ∀(b b:Nat),aA [K.bool] (fun J=>br (bif bif decide (a0_0=a1_0)then decide (a0_1=a1_1)else false then decide (a0_2=a1_2)else false) (af Tryz.prog 26 ⟨[.slice a0_3.a a0_3.n a0_3.c,.slice a1_3.a a1_3.n a1_3.c]⟩ V fun r V=>∃x:Bool,r= .bool x∧br x (af Tryz.prog 59 ⟨[.slice a0_4.a a0_4.n a0_4.c,.slice a1_4.a a1_4.n a1_4.c]⟩ V fun r V=>∃x:Bool,r= .bool x∧J x V) (J false V)) (J false V)) fun x V=>Q (.bool x) V
def IE:AC:=(.seq qd (.seq (.reg ⟨.done,false,[],[],(some ⟨(rg 5 33),[(4,.bool)],[]⟩)⟩) .leaf))
theorem LY {a0_0:Int} {a0_1:Int} {a0_2:Int} {a0_3:Sl} {a0_4:Sl} {a1_0:Int} {a1_1:Int} {a1_2:Int} {a1_3:Sl} {a1_4:Sl} {V:View} {Q:Value→View→Prop} (h:GA a0_0 a0_1 a0_2 a0_3 a0_4 a1_0 a1_1 a1_2 a1_3 a1_4 V Q):af Tryz.prog 30 ⟨[(.agg ⟨[(.int .i64 a0_0),(.int .i64 a0_1),(.int .i64 a0_2),(.slice a0_3.a a0_3.n a0_3.c),(.slice a0_4.a a0_4.n a0_4.c)]⟩),(.agg ⟨[(.int .i64 a1_0),(.int .i64 a1_1),(.int .i64 a1_2),(.slice a1_3.a a1_3.n a1_3.c),(.slice a1_4.a a1_4.n a1_4.c)]⟩)]⟩ V Q:=
 obx false Tryz.f30 IE (by kernel_rfl) (by kernel_rfl) (by kernel_rfl) (by kernel_rfl) h
def GB (V:View) (Q:Value→View→Prop):Prop:=
 ∀(b:Nat),(0:Int)≤12∧(12:Int)≤12∧(12:Int)*(↑(TypeInfo.bytes (Tables.types (Program.toTables Tryz.prog))[(63:Nat)]):Int)≤140737488355328∧(12:Int)≤140737488355328∧b7 V (Obj.cells (Array.mk (List.flatten (List.replicate (12:Nat) [.int .i64 0,.int .i64 0,.int .i64 0,.slice none 0 0,.slice none 0 0]))) (63:Nat)) fun r V=>∀(b:Nat),True∧∃S:View,S.Le V∧af Tryz.prog 61 ⟨[.int .i64 2]⟩ V fun r_1 V=>∃x x_1 x_2:Int,∃x_3 x_4:Sl,r_1= .agg ⟨[.int .i64 x,.int .i64 x_1,.int .i64 x_2,.slice x_3.a x_3.n x_3.c,.slice x_4.a x_4.n x_4.c]⟩∧S.Le V∧(0:Int)≤0∧0<(↑(Int.toNat (12:Int)):Int)∧∃ad:Addr,some (Addr.mk r 0 none)=some ad∧ay V (ad.add (0:Nat)) (Nat.succ (Nat.succ (Nat.succ (Nat.succ (nat_lit 1)))))∧Q (.agg ⟨[.slice (some (Addr.mk r 0 none)) (12:Nat) (12:Nat)]⟩) (V.sets (ad.add (0:Nat)) [.int .i64 x,.int .i64 x_1,.int .i64 x_2,.slice x_3.a x_3.n x_3.c,.slice x_4.a x_4.n x_4.c])
def IF:AC:=(.seq qd (.seq qd (.seq (.reg ⟨(.fl 0 (.fl 1 (.alt 2 true false (.fl 3 (.alt 4 false false .done .no)) .no))),true,[],[],none⟩) (.seq qd .leaf))))
theorem LZ {_u:Unit} {V:View} {Q:Value→View→Prop} (h:GB V Q):af Tryz.prog 32 ⟨[]⟩ V Q:=
 obx false Tryz.f32 IF (by kernel_rfl) (by kernel_rfl) (by kernel_rfl) (by kernel_rfl) h
def GC (V:View) (Q:Value→View→Prop):Prop:=
 b7 V (Obj.cells (Array.mk (bD [.int .i64 0] (0:Nat) [.int .i64 (-1)])) (3:Nat)) fun r V=>af Tryz.prog 62 ⟨[.slice (some (Addr.mk r 0 none)) (1:Nat) (1:Nat),.int .i64 4]⟩ V fun r V=>∃x:Sl,r= .slice x.a x.n x.c∧Q (.slice x.a x.n x.c) V
def IG:AC:=(.seq qd (.seq qd .leaf))
theorem L0 {_u:Unit} {V:View} {Q:Value→View→Prop} (h:GC V Q):af Tryz.prog 33 ⟨[]⟩ V Q:=
 obx false Tryz.f33 IG (by kernel_rfl) (by kernel_rfl) (by kernel_rfl) (by kernel_rfl) h
def GD (a0:Option Addr) (a1_0:Int) (a1_1:ByteArray) (a1_2:ByteArray) (a1_3:Int) (a1_4:Int) (a1_5:Int) (a1_6:Sl) (V:View) (Q:Value→View→Prop):Prop:=
 ∀(b b:Nat),True∧∃S:View,S.Le V∧∃a:Addr,a0=some a∧∃x:Sl,aq S (a.add (1:Nat)) [.slice x.a x.n x.c]∧∃a:Addr,a0=some a∧∃x_1:Sl,S.cell? (a.add (2:Nat))=some (.slice x_1.a x_1.n x_1.c)∧∀(b:Nat),S.Le V∧(V.see b=none→ay (V.put b (Obj.cells ⟨[.slice none 0 0,.slice none 0 0,.slice none 0 0,.int .i64 0,.int .i64 0,.int .i64 0,.int .i64 0,.int .i64 0,.slice none 0 0,.slice none 0 0]⟩ (74:Nat))) (Addr.mk b 0 none) (Nat.succ (nat_lit 9))∧aA [K.bool] (fun J=>br (decide (a1_0=1)) (J (decide (a1_0=1)) (View.sets (V.put b (Obj.cells ⟨[.slice none 0 0,.slice none 0 0,.slice none 0 0,.int .i64 0,.int .i64 0,.int .i64 0,.int .i64 0,.int .i64 0,.slice none 0 0,.slice none 0 0]⟩ (74:Nat))) (Addr.mk b 0 none) [.slice x.a x.n x.c,.slice x_1.a x_1.n x_1.c,.slice none 0 0,.int .i64 0,.int .i64 0,.int .i64 0,.int .i64 0,.int .i64 0,.slice none 0 0,.slice none 0 0])) (aA [K.bool] (fun J=>br (decide (a1_0=2)) (J (decide (a1_0=2)) (View.sets (V.put b (Obj.cells ⟨[.slice none 0 0,.slice none 0 0,.slice none 0 0,.int .i64 0,.int .i64 0,.int .i64 0,.int .i64 0,.int .i64 0,.slice none 0 0,.slice none 0 0]⟩ (74:Nat))) (Addr.mk b 0 none) [.slice x.a x.n x.c,.slice x_1.a x_1.n x_1.c,.slice none 0 0,.int .i64 0,.int .i64 0,.int .i64 0,.int .i64 0,.int .i64 0,.slice none 0 0,.slice none 0 0])) (aA [K.bool] (fun J=>br (decide (a1_0=3)) (J (decide (a1_0=3)) (View.sets (V.put b (Obj.cells ⟨[.slice none 0 0,.slice none 0 0,.slice none 0 0,.int .i64 0,.int .i64 0,.int .i64 0,.int .i64 0,.int .i64 0,.slice none 0 0,.slice none 0 0]⟩ (74:Nat))) (Addr.mk b 0 none) [.slice x.a x.n x.c,.slice x_1.a x_1.n x_1.c,.slice none 0 0,.int .i64 0,.int .i64 0,.int .i64 0,.int .i64 0,.int .i64 0,.slice none 0 0,.slice none 0 0])) (aA [K.bool] (fun J=>br (decide (a1_0=4)) (J (decide (a1_0=4)) (View.sets (V.put b (Obj.cells ⟨[.slice none 0 0,.slice none 0 0,.slice none 0 0,.int .i64 0,.int .i64 0,.int .i64 0,.int .i64 0,.int .i64 0,.slice none 0 0,.slice none 0 0]⟩ (74:Nat))) (Addr.mk b 0 none) [.slice x.a x.n x.c,.slice x_1.a x_1.n x_1.c,.slice none 0 0,.int .i64 0,.int .i64 0,.int .i64 0,.int .i64 0,.int .i64 0,.slice none 0 0,.slice none 0 0])) (aA [K.bool] (fun J=>br (decide (a1_0=5)) (J (decide (a1_0=5)) (View.sets (V.put b (Obj.cells ⟨[.slice none 0 0,.slice none 0 0,.slice none 0 0,.int .i64 0,.int .i64 0,.int .i64 0,.int .i64 0,.int .i64 0,.slice none 0 0,.slice none 0 0]⟩ (74:Nat))) (Addr.mk b 0 none) [.slice x.a x.n x.c,.slice x_1.a x_1.n x_1.c,.slice none 0 0,.int .i64 0,.int .i64 0,.int .i64 0,.int .i64 0,.int .i64 0,.slice none 0 0,.slice none 0 0])) (J (decide (a1_0=6)) (View.sets (V.put b (Obj.cells ⟨[.slice none 0 0,.slice none 0 0,.slice none 0 0,.int .i64 0,.int .i64 0,.int .i64 0,.int .i64 0,.int .i64 0,.slice none 0 0,.slice none 0 0]⟩ (74:Nat))) (Addr.mk b 0 none) [.slice x.a x.n x.c,.slice x_1.a x_1.n x_1.c,.slice none 0 0,.int .i64 0,.int .i64 0,.int .i64 0,.int .i64 0,.int .i64 0,.slice none 0 0,.slice none 0 0]))) fun x V=>J x V)) fun x V=>J x V)) fun x V=>J x V)) fun x V=>J x V)) fun x V=>aA [K.int .i64] (fun J=>br x (af Tryz.prog 63 ⟨[.pointer a0,.agg ⟨[.int .i64 a1_0,.string a1_1,.string a1_2,.int .i64 a1_3,.int .i64 a1_4,.int .i64 a1_5,.slice a1_6.a a1_6.n a1_6.c]⟩]⟩ V fun r V=>∃x:Sl,∃x_2:Int,r=Value.tuple ⟨[.agg ⟨[.slice x.a x.n x.c]⟩,.int .i64 x_2]⟩∧ay V (Addr.mk b 0 none) (nat_lit 1)∧J x_2 (V.sets (Addr.mk b 0 none) [.slice x.a x.n x.c])) (aA [K.bool] (fun J=>br (decide (a1_0=7)) (J (decide (a1_0=7)) V) (aA [K.bool] (fun J=>br (decide (a1_0=8)) (J (decide (a1_0=8)) V) (J (decide (a1_0=9)) V)) fun x V=>J x V)) fun x V=>aA [K.int .i64] (fun J=>br x (af Tryz.prog 64 ⟨[.pointer a0,.agg ⟨[.int .i64 a1_0,.string a1_1,.string a1_2,.int .i64 a1_3,.int .i64 a1_4,.int .i64 a1_5,.slice a1_6.a a1_6.n a1_6.c]⟩,.pointer (some (Addr.mk b 0 none))]⟩ V fun r V=>∃x:Int,r= .int .i64 x∧J x V) (aA [K.int .i64] (fun J=>br (decide (a1_0=10)) (af Tryz.prog 65 ⟨[.pointer a0,.agg ⟨[.int .i64 a1_0,.string a1_1,.string a1_2,.int .i64 a1_3,.int .i64 a1_4,.int .i64 a1_5,.slice a1_6.a a1_6.n a1_6.c]⟩,.pointer (some (Addr.mk b 0 none))]⟩ V fun r V=>∃x:Int,r= .int .i64 x∧J x V) (aA [K.bool] (fun J=>br (decide (a1_0=11)) (J (decide (a1_0=11)) V) (aA [K.bool] (fun J=>br (decide (a1_0=12)) (J (decide (a1_0=12)) V) (J (decide (a1_0=13)) V)) fun x V=>J x V)) fun x V=>aA [K.int .i64] (fun J=>br x (af Tryz.prog 66 ⟨[.pointer a0,.agg ⟨[.int .i64 a1_0,.string a1_1,.string a1_2,.int .i64 a1_3,.int .i64 a1_4,.int .i64 a1_5,.slice a1_6.a a1_6.n a1_6.c]⟩,.pointer (some (Addr.mk b 0 none))]⟩ V fun r V=>∃x:Int,r= .int .i64 x∧J x V) (aA [K.int .i64] (fun J=>br (decide (a1_0=14)) (J (0:Int) V) (aA [K.int .i64] (fun J=>br (decide (a1_0=15)) (True∧∃S:View,S.Le V∧∃a:Addr,a0=some a∧∃x:Sl,aq S (a.add (1:Nat)) [.slice x.a x.n x.c]∧∃a:Addr,a0=some a∧∃x_2:Int,S.cell? (a.add (0:Nat))=some (.int .i64 x_2)∧∃a:Addr,a0=some a∧∃x_3:Sl,aq S (a.add (1:Nat)) [.slice x_3.a x_3.n x_3.c]∧af Tryz.prog 67 ⟨[.agg ⟨[.slice x.a x.n x.c]⟩,.int .i64 x_2]⟩ V fun r V=>∃x:Int,r= .int .i64 x∧S.Le V∧af Tryz.prog 68 ⟨[.agg ⟨[.slice x_3.a x_3.n x_3.c]⟩]⟩ V fun r V=>∃x_4:Int,r= .int .i64 x_4∧ay V (Addr.mk b 3 none) (Nat.succ (Nat.succ (Nat.succ (Nat.succ (nat_lit 3)))))∧J (0:Int) (V.sets (Addr.mk b 3 none) [.int .i64 0,.int .i64 0,.int .i64 x,.int .i64 0,.int .i64 x_4,.slice none 0 0,.slice none 0 0])) (J (1:Int) V)) fun(x:Int) V=>J x V)) fun(x:Int) V=>J x V)) fun(x:Int) V=>J x V)) fun(x:Int) V=>J x V)) fun(x:Int) V=>J x V)) fun(x:Int) V=>br (!decide (x=0)) (True∧∃S:View,S.Le V∧∃a:Addr,a0=some a∧∃x_2:Sl,aq S (a.add (1:Nat)) [.slice x_2.a x_2.n x_2.c]∧∃a:Addr,a0=some a∧∃x_3:Sl,S.cell? (a.add (2:Nat))=some (.slice x_3.a x_3.n x_3.c)∧Q (.agg ⟨[.slice x_2.a x_2.n x_2.c,.slice x_3.a x_3.n x_3.c,.slice none 0 0,.int .i64 x,.int .i64 0,.int .i64 0,.int .i64 0,.int .i64 0,.slice none 0 0,.slice none 0 0]⟩) V) (∃x x_2 x_3:Sl,∃x_4 x_5 x_6 x_7 x_8:Int,∃x_9 x_10:Sl,aq V (Addr.mk b 0 none) [.slice x.a x.n x.c,.slice x_2.a x_2.n x_2.c,.slice x_3.a x_3.n x_3.c,.int .i64 x_4,.int .i64 x_5,.int .i64 x_6,.int .i64 x_7,.int .i64 x_8,.slice x_9.a x_9.n x_9.c,.slice x_10.a x_10.n x_10.c]∧Q (.agg ⟨[.slice x.a x.n x.c,.slice x_2.a x_2.n x_2.c,.slice x_3.a x_3.n x_3.c,.int .i64 x_4,.int .i64 x_5,.int .i64 x_6,.int .i64 x_7,.int .i64 x_8,.slice x_9.a x_9.n x_9.c,.slice x_10.a x_10.n x_10.c]⟩) V))
def II:AC:=(.seq qd (.seq (.reg ⟨(.fl 0 (.fl 1 (.fl 2 (.fl 3 (.fl 4 (.fl 5 (.fl 6 (.fl 7 (.fl 8 (.alt 9 true false (.alt 10 false false .done .no) .no)))))))))),true,[(10,2)],[],none⟩) (.seq qd (.seq (.seq qd (.block none (.seq (.seq qd (.cond (some ⟨(rg 20 5),[(18,.bool)],[]⟩) .leaf (.seq qd (.cond (some ⟨(rg 21 4),[(18,.bool)],[]⟩) .leaf (.seq qd (.cond (some ⟨[22,23,24],[(18,.bool)],[]⟩) .leaf (.seq qd (.cond (some ⟨[23,24],[(18,.bool)],[]⟩) .leaf (.seq qd (.cond (some ⟨[24],[(18,.bool)],[]⟩) .leaf qd)))))))))) (.cond (some ⟨(rg 25 46),[(6,.int .i64)],[]⟩) qd (.seq (.seq qd (.cond (some ⟨[34,35],[(32,.bool)],[]⟩) .leaf (.seq qd (.cond (some ⟨[35],[(32,.bool)],[]⟩) .leaf qd)))) (.cond (some ⟨(rg 36 35),[(6,.int .i64)],[]⟩) qd (.seq qd (.cond (some ⟨(rg 41 30),[(6,.int .i64)],[]⟩) qd (.seq (.seq qd (.cond (some ⟨[46,47],[(44,.bool)],[]⟩) .leaf (.seq qd (.cond (some ⟨[47],[(44,.bool)],[]⟩) .leaf qd)))) (.cond (some ⟨(rg 48 23),[(6,.int .i64)],[]⟩) qd (.seq qd (.cond (some ⟨(rg 53 18),[(6,.int .i64)],[]⟩) .leaf (.seq qd (.cond (some ⟨(rg 55 16),[(6,.int .i64)],[]⟩) (.reg ⟨(.fl 0 (.fl 1 (.fl 2 (.fl 3 (.fl 4 (.fl 5 (.fl 6 (.fl 7 (.fl 9 (.fl 10 (.fl 11 (.fl 12 (.alt 8 true false (.alt 13 false false (.fl 14 (.fl 15 (.alt 16 false false .done .no))) .no) .no))))))))))))),true,[],[],none⟩) qd)))))))))))))) (.seq (.seq qd (.cond none (.seq (.reg ⟨(.fl 0 (.fl 1 (.fl 2 (.fl 3 (.fl 4 (.fl 5 (.fl 6 (.fl 7 (.fl 8 (.fl 9 (.fl 10 (.alt 11 false false .done .no)))))))))))),true,[],[],none⟩) .leaf) .leaf)) (.seq qd .leaf))))))
theorem L1 {a0:Option Addr} {a1_0:Int} {a1_1:ByteArray} {a1_2:ByteArray} {a1_3:Int} {a1_4:Int} {a1_5:Int} {a1_6:Sl} {V:View} {Q:Value→View→Prop} (h:GD a0 a1_0 a1_1 a1_2 a1_3 a1_4 a1_5 a1_6 V Q):af Tryz.prog 34 ⟨[(.pointer a0),(.agg ⟨[(.int .i64 a1_0),(.string a1_1),(.string a1_2),(.int .i64 a1_3),(.int .i64 a1_4),(.int .i64 a1_5),(.slice a1_6.a a1_6.n a1_6.c)]⟩)]⟩ V Q:=
 obx false Tryz.f34 II (by kernel_rfl) (by kernel_rfl) (by kernel_rfl) (by kernel_rfl) h
def GF (a0:Sl) (a1_0:Int) (a1_1:Int) (a1_2:Int) (a1_3:Int) (a1_4:Int) (a1_5:Sl) (V:View) (Q:Value→View→Prop):Prop:=
 ∀(b:Nat),(0:Int)≤16∧(16:Int)≤16∧(16:Int)*(↑(TypeInfo.bytes (Tables.types (Program.toTables Tryz.prog))[(5:Nat)]):Int)≤140737488355328∧(16:Int)≤140737488355328∧b7 V (Obj.cells (Array.mk (List.flatten (List.replicate (16:Nat) [.int .u8 0]))) (5:Nat)) fun r V=>(0:Int)≤0∧(0≤if(a0.n:Int)<if(0:Int)>a1_3 then(0:Int)else a1_3 then(a0.n:Int)else if(0:Int)>a1_3 then(0:Int)else a1_3)∧(if(a0.n:Int)<if(0:Int)>a1_3 then(0:Int)else a1_3 then(a0.n:Int)else if(0:Int)>a1_3 then(0:Int)else a1_3)≤(↑a0.c:Int)∧∃(src:List Value),rowAt V (if a0.c=(0:Nat)then a0.a else Option.map (fun(x:Addr)=>x.add (0:Nat)) a0.a) (min (Int.toNat (if(a0.n:Int)<if(0:Int)>a1_3 then(0:Int)else a1_3 then(a0.n:Int)else if(0:Int)>a1_3 then(0:Int)else a1_3)-(0:Nat)) (16:Nat)*1) src∧(List.all src fun(x:Value)=>Value.oneCell' x)=true∧ay V (Addr.mk r 0 none) (List.length src)∧aG [K.int .i64] (fun(x:Int) V J=>br (decide (x<(↑(Int.toNat (16:Int)):Int))) (inI .i64 ((0:Int)-(a1_5.n:Int))∧inI .i64 (x-if(0:Int)-(a1_5.n:Int)>a1_4 then(0:Int)-(a1_5.n:Int)else a1_4)∧aA [] (fun J=>br (bif decide (0≤x-if(0:Int)-(a1_5.n:Int)>a1_4 then(0:Int)-(a1_5.n:Int)else a1_4)then decide ((x-if(0:Int)-(a1_5.n:Int)>a1_4 then(0:Int)-(a1_5.n:Int)else a1_4)<(a1_5.n:Int))else false) ((0≤x-if(0:Int)-(a1_5.n:Int)>a1_4 then(0:Int)-(a1_5.n:Int)else a1_4)∧(x-if(0:Int)-(a1_5.n:Int)>a1_4 then(0:Int)-(a1_5.n:Int)else a1_4)<(a1_5.n:Int)∧∃ad:Addr,a1_5.a=some ad∧∃x_1:Int,V.cell? (ad.add (Int.toNat (x-if(0:Int)-(a1_5.n:Int)>a1_4 then(0:Int)-(a1_5.n:Int)else a1_4)*1))=some (.int .u8 x_1)∧0≤x∧x<(↑(Int.toNat (16:Int)):Int)∧∃ad:Addr,some (Addr.mk r 0 none)=some ad∧ay V (ad.add (x.toNat*1)) (nat_lit 1)∧J (V.sets (ad.add (x.toNat*1)) [.int .u8 x_1])) (J V)) fun(V:View)=>inI .i64 (x+1)∧J (x+1) V) (Q (.slice (some (Addr.mk r 0 none)) (16:Nat) (16:Nat)) V)) ((0:Int),()) (V.sets (Addr.mk r 0 none) src)
def IJ:AC:=(.seq qd (.seq qd (.seq qd (.seq (.seq qd (.block none (.loop ⟨([6,7]++rg 22 29),[(21,.int .i64)],[]⟩ (.seq qd (.seq (.cond none .leaf .leaf) (.seq (.block none (.seq qd (.seq qd (.seq qd (.cond (some ⟨(rg 42 8),[],[]⟩) qd .leaf))))) qd)))))) (.seq qd .leaf)))))
theorem L2 {a0:Sl} {a1_0:Int} {a1_1:Int} {a1_2:Int} {a1_3:Int} {a1_4:Int} {a1_5:Sl} {V:View} {Q:Value→View→Prop} (h:GF a0 a1_0 a1_1 a1_2 a1_3 a1_4 a1_5 V Q):af Tryz.prog 35 ⟨[(.slice a0.a a0.n a0.c),(.agg ⟨[(.int .i64 a1_0),(.int .i64 a1_1),(.int .i64 a1_2),(.int .i64 a1_3),(.int .i64 a1_4),(.slice a1_5.a a1_5.n a1_5.c)]⟩)]⟩ V Q:=
 obx false Tryz.f35 IJ (by kernel_rfl) (by kernel_rfl) (by kernel_rfl) (by kernel_rfl) h
def GG (a0:Option Addr) (a1:Int) (V:View) (Q:Value→View→Prop):Prop:=
 ∃a:Addr,a0=some a∧∃(x:Option Nat),V.cell? (a.add (3:Nat))=some (Value.map x)∧True∧AP V x (.int .i64 a1) fun(f:Option (Nat×Value))=>∃x:Sl,found (.slice none 0 0) f= .slice x.a x.n x.c∧br (bif Option.isSome f then !decide (a1=0)else false) (Q (.slice x.a x.n x.c) V) ((0:Int)≤16∧(16:Int)≤16∧(16:Int)*(↑(TypeInfo.bytes (Tables.types (Program.toTables Tryz.prog))[(5:Nat)]):Int)≤140737488355328∧(16:Int)≤140737488355328∧b7 V (Obj.cells (Array.mk (List.flatten (List.replicate (16:Nat) [.int .u8 0]))) (5:Nat)) fun r V=>Q (.slice (some (Addr.mk r 0 none)) (16:Nat) (16:Nat)) V)
def IK:AC:=(.seq qd (.seq (.seq qd (.seq qd (.cond none (.seq qd .leaf) .leaf))) (.seq qd .leaf)))
theorem L3 {a0:Option Addr} {a1:Int} {V:View} {Q:Value→View→Prop} (h:GG a0 a1 V Q):af Tryz.prog 36 ⟨[(.pointer a0),(.int .i64 a1)]⟩ V Q:=
 obx false Tryz.f36 IK (by kernel_rfl) (by kernel_rfl) (by kernel_rfl) (by kernel_rfl) h
def GH (a0_0:Sl) (a1:Sl) (a2:Sl) (V:View) (Q:Value→View→Prop):Prop:=
 ∀(b b:Nat),af Tryz.prog 69 ⟨[.agg ⟨[.slice a0_0.a a0_0.n a0_0.c]⟩]⟩ V fun r V=>∃x:Bool,r= .bool x∧br (bif !x then true else !decide ((a1.n:Int)=(a2.n:Int))) (Q (Value.tuple ⟨[.agg ⟨[.slice none 0 0]⟩,.int .i64 1]⟩) V) (af Tryz.prog 38 ⟨[.agg ⟨[.slice a0_0.a a0_0.n a0_0.c]⟩]⟩ V fun r V=>∃x:Sl,r= .agg ⟨[.slice x.a x.n x.c]⟩∧∀(b:Nat),aG [K.int .i64] (fun(x_1:Int) V J=>br (decide (x_1<(a1.n:Int))) (0≤x_1∧x_1<(a1.n:Int)∧∃ad:Addr,a1.a=some ad∧∃x_2 x_3 x_4 x_5 x_6:Int,∃x_7:Sl,aq V (ad.add (x_1.toNat*6)) [.int .i64 x_2,.int .i64 x_3,.int .i64 x_4,.int .i64 x_5,.int .i64 x_6,.slice x_7.a x_7.n x_7.c]∧∀(b:Nat),aA [K.bool] (fun J=>af Tryz.prog 70 ⟨[.agg ⟨[.slice a0_0.a a0_0.n a0_0.c]⟩,.int .i64 x_2]⟩ V fun r V=>∃x:Bool,r= .bool x∧br (bif bif !x then true else decide (x_3<0)then true else decide (5≤x_3)) (J true V) (0≤x_1∧x_1<(a2.n:Int)∧∃ad:Addr,a2.a=some ad∧∃x:Int,V.cell? (ad.add (x_1.toNat*1))=some (.int .i64 x)∧br (decide (x<1)) (J true V) (0≤x_1∧x_1<(a2.n:Int)∧∃ad:Addr,a2.a=some ad∧∃x:Int,V.cell? (ad.add (x_1.toNat*1))=some (.int .i64 x)∧J (decide (1099511627776<x)) V))) fun x_8 V=>br x_8 (Q (Value.tuple ⟨[.agg ⟨[.slice none 0 0]⟩,.int .i64 1]⟩) V) (True∧∃S:View,S.Le V∧0≤x_2∧x_2<(x.n:Int)∧∃ad:Addr,x.a=some ad∧∃x:Sl,S.cell? (Addr.add (ad.add (x_2.toNat*5)) (3:Nat))=some (.slice x.a x.n x.c)∧0≤x_1∧x_1<(a2.n:Int)∧∃ad:Addr,a2.a=some ad∧∃x_9:Int,S.cell? (ad.add (x_1.toNat*1))=some (.int .i64 x_9)∧0≤x_3∧x_3<(x.n:Int)∧∃ad:Addr,x.a=some ad∧ay V (ad.add (x_3.toNat*1)) (nat_lit 1)∧inI .i64 (x_1+1)∧J (x_1+1) (V.sets (ad.add (x_3.toNat*1)) [.int .i64 x_9]))) (af Tryz.prog 69 ⟨[.agg ⟨[.slice x.a x.n x.c]⟩]⟩ V fun r V=>∃x_2:Bool,r= .bool x_2∧br (!x_2) (Q (Value.tuple ⟨[.agg ⟨[.slice none 0 0]⟩,.int .i64 18]⟩) V) (Q (Value.tuple ⟨[.agg ⟨[.slice x.a x.n x.c]⟩,.int .i64 0]⟩) V))) ((0:Int),()) V)
def IL:AC:=(.seq qd (.seq (.seq qd (.cond none (.seq qd .leaf) .leaf)) (.seq qd (.seq (.seq qd (.block none (.loop ⟨([9,10]++rg 27 33++rg 61 15),[(26,.int .i64)],[]⟩ (.seq qd (.seq (.cond none .leaf .leaf) (.seq (.block none (.seq qd (.seq (.seq (.reg ⟨.done,false,[],[],(some ⟨(rg 31 28),[(59,.bool)],[]⟩)⟩) (.cond none (.seq qd .leaf) .leaf)) (.reg ⟨(.fl 0 (.fl 1 (.fl 2 (.fl 3 (.fl 4 (.fl 5 (.fl 6 (.fl 7 (.fl 8 (.fl 9 (.fl 10 (.fl 11 (.fl 12 (.fl 13 (.alt 14 false false .done .no))))))))))))))),true,[],[],none⟩)))) qd)))))) (.seq (.seq qd (.cond none (.seq qd .leaf) .leaf)) (.seq qd .leaf))))))
theorem L4 {a0_0:Sl} {a1:Sl} {a2:Sl} {V:View} {Q:Value→View→Prop} (h:GH a0_0 a1 a2 V Q):af Tryz.prog 37 ⟨[(.agg ⟨[(.slice a0_0.a a0_0.n a0_0.c)]⟩),(.slice a1.a a1.n a1.c),(.slice a2.a a2.n a2.c)]⟩ V Q:=
 obx false Tryz.f37 IL (by kernel_rfl) (by kernel_rfl) (by kernel_rfl) (by kernel_rfl) h
def Bp (a0_0:Sl) (V:View) (Q:Value→View→Prop):Prop:=
 ∀(b b b:Nat),aG [K.int .i64,K.sl] (fun(x:Int) (x_1:Sl) (V:View) (J:c7 [K.int .i64,K.sl])=>br (decide (x<(a0_0.n:Int))) (0≤x∧x<(a0_0.n:Int)∧∃ad:Addr,a0_0.a=some ad∧∃x_2 x_3 x_4:Int,∃x_5 x_6:Sl,aq V (ad.add (x.toNat*5)) [.int .i64 x_2,.int .i64 x_3,.int .i64 x_4,.slice x_5.a x_5.n x_5.c,.slice x_6.a x_6.n x_6.c]∧∀(b:Nat),True∧∃S:View,S.Le V∧af Tryz.prog 71 ⟨[.agg ⟨[.int .i64 x_2,.int .i64 x_3,.int .i64 x_4,.slice x_5.a x_5.n x_5.c,.slice x_6.a x_6.n x_6.c]⟩]⟩ V fun r V=>∃x_7 x_8 x_9:Int,∃x_10 x_11:Sl,r= .agg ⟨[.int .i64 x_7,.int .i64 x_8,.int .i64 x_9,.slice x_10.a x_10.n x_10.c,.slice x_11.a x_11.n x_11.c]⟩∧S.Le V∧b7 V (Obj.cells (Array.mk (bD [.int .i64 0,.int .i64 0,.int .i64 0,.slice none 0 0,.slice none 0 0] (0:Nat) [.int .i64 x_7,.int .i64 x_8,.int .i64 x_9,.slice x_10.a x_10.n x_10.c,.slice x_11.a x_11.n x_11.c])) (63:Nat)) fun r V=>S.Le V∧apV V (63:Nat) (5:Nat) (72:Nat) [.int .i64 0,.int .i64 0,.int .i64 0,.slice none 0 0,.slice none 0 0] (Sl.mk x_1.a x_1.n x_1.c) (.slice (some (Addr.mk r 0 none)) (1:Nat) (1:Nat)) fun s V=>inI .i64 (x+1)∧J (x+1) (Sl.mk s.a s.n s.c) V) (Q (.agg ⟨[.slice x_1.a x_1.n x_1.c]⟩) V)) ((0:Int),Sl.mk none (0:Nat) (0:Nat),()) V
def IM:AC:=(.seq qd (.seq qd (.seq (.seq qd (.block none (.loop ⟨([5]++rg 10 11),[(9,.int .i64)],[(2,[.sl])]⟩ (.seq qd (.seq (.cond none .leaf .leaf) (.seq (.block none (.seq qd (.reg ⟨(.fl 0 (.fl 1 (.fl 2 (.alt 3 true false (.alt 4 true false (.alt 5 false false (.fl 6 (.alt 7 false false .done .no)) .no) .no) .no)))),true,[],[],none⟩))) qd)))))) (.seq qd .leaf))))
theorem GI {a0_0:Sl} {V:View} {Q:Value→View→Prop} (h:Bp a0_0 V Q):af Tryz.prog 38 ⟨[(.agg ⟨[(.slice a0_0.a a0_0.n a0_0.c)]⟩)]⟩ V Q:=
 obx false Tryz.f38 IM (by kernel_rfl) (by kernel_rfl) (by kernel_rfl) (by kernel_rfl) h
def GJ (a0_0:Sl) (a1_0:Sl) (V:View) (Q:Value→View→Prop):Prop:=
 ∀(b b:Nat),af Tryz.prog 72 ⟨[.slice a0_0.a a0_0.n a0_0.c,.slice a1_0.a a1_0.n a1_0.c,Value.func (Fn.func (73:Nat)) ⟨[]⟩ ⟨[]⟩]⟩ V fun r V=>∃x:Bool,r= .bool x∧Q (.bool x) V
def IN:AC:=(.seq qd (.seq qd .leaf))
theorem L5 {a0_0:Sl} {a1_0:Sl} {V:View} {Q:Value→View→Prop} (h:GJ a0_0 a1_0 V Q):af Tryz.prog 39 ⟨[(.agg ⟨[(.slice a0_0.a a0_0.n a0_0.c)]⟩),(.agg ⟨[(.slice a1_0.a a1_0.n a1_0.c)]⟩)]⟩ V Q:=
 obx false Tryz.f39 IN (by kernel_rfl) (by kernel_rfl) (by kernel_rfl) (by kernel_rfl) h
def GK (a0_0:Int) (a0_1:Int) (a0_2:Int) (a0_3:Sl) (a0_4:Sl) (V:View) (Q:Value→View→Prop):Prop:=
 ∀(b:Nat),br (decide (a0_0=0)) (Q (.bool (bif bif bif decide (a0_1=0)then decide (a0_2=0)else false then decide ((a0_3.n:Int)=0)else false then decide ((a0_4.n:Int)=0)else false)) V) (br (decide (a0_0=2)) (aA [K.bool] (fun J=>br (bif bif decide (a0_1=1)then decide (a0_2=0)else false then decide ((a0_3.n:Int)=0)else false) (af Tryz.prog 74 ⟨[.slice a0_4.a a0_4.n a0_4.c]⟩ V fun r V=>∃x:Bool,r= .bool x∧J x V) (J false V)) fun x V=>Q (.bool x) V) (br (decide (a0_0=1)) (br (bif bif bif bif bif decide (a0_1<0)then true else decide (120<a0_1)then true else decide (a0_2<0)then true else decide (80<a0_2)then true else !decide ((a0_3.n:Int)=5)then true else !decide ((a0_4.n:Int)=0)) (Q (.bool false) V) (aG [K.int .i64] (fun(x:Int) V J=>br (decide (x<(a0_3.n:Int))) (0≤x∧x<(a0_3.n:Int)∧∃ad:Addr,a0_3.a=some ad∧∃x_1:Int,V.cell? (ad.add (x.toNat*1))=some (.int .i64 x_1)∧aA [K.bool] (fun J=>br (bif decide (x_1<0)then true else decide (1099511627776<x_1)) (J true V) (br (!decide (x_1=0)) (inI .i64 (x*16)∧J (decide (a0_2≤x*16)) V) (J false V))) fun x_2 V=>br x_2 (Q (.bool false) V) (inI .i64 (x+1)∧J (x+1) V)) (Q (.bool true) V)) ((0:Int),()) V)) (Q (.bool false) V)))
def IP:AC:=(.seq qd (.seq (.seq qd (.block none (.seq qd (.cond none (.seq qd .leaf) (.seq qd (.cond none (.seq (.reg ⟨.done,false,[],[],(some ⟨(rg 31 19),[(2,.bool)],[]⟩)⟩) .leaf) (.seq qd (.cond none .leaf (.seq qd .leaf))))))))) (.seq (.seq qd (.cond none (.seq qd .leaf) .leaf)) (.seq (.seq qd (.block none (.loop ⟨([3,4]++rg 86 22),[(85,.int .i64)],[]⟩ (.seq qd (.seq (.cond none .leaf .leaf) (.seq (.block none (.seq qd (.seq (.reg ⟨.done,false,[],[],(some ⟨(rg 90 16),[(106,.bool)],[]⟩)⟩) (.cond none (.seq qd .leaf) .leaf)))) qd)))))) (.seq qd .leaf)))))
theorem L6 {a0_0:Int} {a0_1:Int} {a0_2:Int} {a0_3:Sl} {a0_4:Sl} {V:View} {Q:Value→View→Prop} (h:GK a0_0 a0_1 a0_2 a0_3 a0_4 V Q):af Tryz.prog 40 ⟨[(.agg ⟨[(.int .i64 a0_0),(.int .i64 a0_1),(.int .i64 a0_2),(.slice a0_3.a a0_3.n a0_3.c),(.slice a0_4.a a0_4.n a0_4.c)]⟩)]⟩ V Q:=
 obx false Tryz.f40 IP (by kernel_rfl) (by kernel_rfl) (by kernel_rfl) (by kernel_rfl) h
def GL (a0_0:Sl) (a1:Int) (V:View) (Q:Value→View→Prop):Prop:=
 ∀(b:Nat),0≤(a0_0.n:Int)∧(a0_0.n:Int)≤(a0_0.n:Int)∧(a0_0.n:Int)*(↑(TypeInfo.bytes (Tables.types (Program.toTables Tryz.prog))[(4:Nat)]):Int)≤140737488355328∧(a0_0.n:Int)≤140737488355328∧b7 V (Obj.cells (Array.mk (List.flatten (List.replicate (Int.toNat (a0_0.n:Int)) [.bool false]))) (4:Nat)) fun r V=>aA [K.bool] (fun J=>br (bif decide (a1<0)then true else decide ((↑(Int.toNat (a0_0.n:Int)):Int)≤a1)) (J true V) (0≤a1∧a1<(a0_0.n:Int)∧∃ad:Addr,a0_0.a=some ad∧∃x:Int,V.cell? (Addr.add (ad.add (a1.toNat*5)) (0:Nat))=some (.int .i64 x)∧J (!decide (x=2)) V)) fun x V=>br x (Q (.slice (some (Addr.mk r 0 none)) (Int.toNat (a0_0.n:Int)) (Int.toNat (a0_0.n:Int))) V) (0≤a1∧a1<(↑(Int.toNat (a0_0.n:Int)):Int)∧∃ad:Addr,some (Addr.mk r 0 none)=some ad∧ay V (ad.add (a1.toNat*1)) (1:Nat)∧aG [K.int .i64] (fun(x:Int) V J=>br (decide (x<(↑(Int.toNat (a0_0.n:Int)):Int))) (aG [K.int .i64] (fun(x_1:Int) V J_1=>br (decide (x_1<(a0_0.n:Int))) (aA [] (fun J=>0≤x_1∧x_1<(a0_0.n:Int)∧∃ad:Addr,a0_0.a=some ad∧∃x x_2 x_3:Int,∃x_4 x_5:Sl,aq V (ad.add (x_1.toNat*5)) [.int .i64 x,.int .i64 x_2,.int .i64 x_3,.slice x_4.a x_4.n x_4.c,.slice x_5.a x_5.n x_5.c]∧∀(b:Nat),0≤x_1∧x_1<(↑(Int.toNat (a0_0.n:Int)):Int)∧∃ad:Addr,some (Addr.mk r 0 none)=some ad∧∃x:Bool,V.cell? (ad.add (x_1.toNat*1))=some (.bool x)∧br (!x) (J V) (aG [K.int .i64] (fun(x:Int) V J_2=>br (decide (x<(x_5.n:Int))) (0≤x∧x<(x_5.n:Int)∧∃ad:Addr,x_5.a=some ad∧∃x_6:ByteArray,∃x_7:Int,aq V (ad.add (x.toNat*2)) [.string x_6,.int .i64 x_7]∧∀(b:Nat),aA [K.bool] (fun J=>br (bif decide (0≤x_7)then decide (x_7<(↑(Int.toNat (a0_0.n:Int)):Int))else false) (0≤x_7∧x_7<(a0_0.n:Int)∧∃ad:Addr,a0_0.a=some ad∧∃x:Int,V.cell? (Addr.add (ad.add (x_7.toNat*5)) (0:Nat))=some (.int .i64 x)∧J (decide (x=2)) V) (J false V)) fun x_8 V=>aA [] (fun J=>br x_8 (0≤x_7∧x_7<(↑(Int.toNat (a0_0.n:Int)):Int)∧∃ad:Addr,some (Addr.mk r 0 none)=some ad∧ay V (ad.add (x_7.toNat*1)) (1:Nat)∧J (V.sets (ad.add (x_7.toNat*1)) [.bool true])) (J V)) fun(V:View)=>inI .i64 (x+1)∧J_2 (x+1) V) (J V)) ((0:Int),()) V)) fun(V:View)=>inI .i64 (x_1+1)∧J_1 (x_1+1) V) (inI .i64 (x+1)∧J (x+1) V)) ((0:Int),()) V) (Q (.slice (some (Addr.mk r 0 none)) (Int.toNat (a0_0.n:Int)) (Int.toNat (a0_0.n:Int))) V)) ((0:Int),()) (V.sets (ad.add (a1.toNat*1)) [.bool true]))
def IQ:AC:=(.seq qd (.seq qd (.seq (.seq (.reg ⟨.done,false,[],[],(some ⟨(rg 14 16),[(30,.bool)],[]⟩)⟩) (.cond none (.seq qd .leaf) .leaf)) (.seq qd (.seq (.seq qd (.block none (.loop ⟨([6,7,9]++rg 38 48),[(37,.int .i64)],[]⟩ (.seq qd (.seq (.cond none .leaf .leaf) (.seq (.block none (.seq qd (.block none (.loop ⟨([6,7,9]++rg 43 42),[(42,.int .i64)],[]⟩ (.seq qd (.seq (.cond none .leaf .leaf) (.seq (.block (some ⟨([6,7,9]++rg 44 40),[],[]⟩) (.seq qd (.seq (.seq qd (.cond none .leaf .leaf)) (.seq qd (.block none (.loop ⟨([9]++rg 56 28),[(55,.int .i64)],[]⟩ (.seq qd (.seq (.cond none .leaf .leaf) (.seq (.block none (.seq qd (.seq (.reg ⟨.done,false,[],[],(some ⟨(rg 59 19),[(78,.bool)],[]⟩)⟩) (.cond (some ⟨(rg 79 4),[],[]⟩) qd .leaf)))) qd))))))))) qd))))))) qd)))))) (.seq qd .leaf))))))
theorem L7 {a0_0:Sl} {a1:Int} {V:View} {Q:Value→View→Prop} (h:GL a0_0 a1 V Q):af Tryz.prog 41 ⟨[(.agg ⟨[(.slice a0_0.a a0_0.n a0_0.c)]⟩),(.int .i64 a1)]⟩ V Q:=
 obx false Tryz.f41 IQ (by kernel_rfl) (by kernel_rfl) (by kernel_rfl) (by kernel_rfl) h
def GM (a0_0:Sl) (a1:Int) (V:View) (Q:Value→View→Prop):Prop:=
 ∀(b:Nat),aG [K.int .i64,K.int .i64] (fun(x x_1:Int) (V:View) (J:c7 [K.int .i64,K.int .i64])=>br (decide (x_1<(a0_0.n:Int))) (0≤x_1∧x_1<(a0_0.n:Int)∧∃ad:Addr,a0_0.a=some ad∧∃x_2 x_3 x_4:Int,∃x_5 x_6:Sl,aq V (ad.add (x_1.toNat*5)) [.int .i64 x_2,.int .i64 x_3,.int .i64 x_4,.slice x_5.a x_5.n x_5.c,.slice x_6.a x_6.n x_6.c]∧∀(b:Nat),aG [K.int .i64,K.int .i64] (fun(x x_7:Int) (V:View) (J_1:c7 [K.int .i64,K.int .i64])=>br (decide (x_7<(x_6.n:Int))) (0≤x_7∧x_7<(x_6.n:Int)∧∃ad:Addr,x_6.a=some ad∧∃x_8:ByteArray,∃x_9:Int,aq V (ad.add (x_7.toNat*2)) [.string x_8,.int .i64 x_9]∧∀(b:Nat),aA [K.int .i64] (fun J=>br (decide (x_9=a1)) (inI .i64 (x+1)∧J (x+1) V) (J x V)) fun(x:Int) V=>inI .i64 (x_7+1)∧J_1 x (x_7+1) V) (inI .i64 (x_1+1)∧J x (x_1+1) V)) (x,(0:Int),()) V) (Q (.int .i64 x) V)) ((0:Int),(0:Int),()) V
def IS:AC:=(.seq qd (.seq qd (.seq (.seq qd (.block none (.loop ⟨([7,9]++rg 14 18),[(5,.int .i64),(13,.int .i64)],[]⟩ (.seq qd (.seq (.cond none .leaf .leaf) (.seq (.block none (.seq qd (.seq qd (.block none (.loop ⟨([9]++rg 21 10),[(5,.int .i64),(20,.int .i64)],[]⟩ (.seq qd (.seq (.cond none .leaf .leaf) (.seq (.block none (.seq qd (.seq qd (.cond (some ⟨[28,29],[(5,.int .i64)],[]⟩) qd .leaf)))) qd)))))))) qd)))))) (.seq qd .leaf))))
theorem L8 {a0_0:Sl} {a1:Int} {V:View} {Q:Value→View→Prop} (h:GM a0_0 a1 V Q):af Tryz.prog 42 ⟨[(.agg ⟨[(.slice a0_0.a a0_0.n a0_0.c)]⟩),(.int .i64 a1)]⟩ V Q:=
 obx false Tryz.f42 IS (by kernel_rfl) (by kernel_rfl) (by kernel_rfl) (by kernel_rfl) h
def GN (a0_0:Sl) (V:View) (Q:Value→View→Prop):Prop:=
 ∀(b:Nat),aG [K.int .i64] (fun(x:Int) V J=>br (decide (x<(a0_0.n:Int))) (0≤x∧x<(a0_0.n:Int)∧∃ad:Addr,a0_0.a=some ad∧∃x_1 x_2 x_3:Int,∃x_4 x_5:Sl,aq V (ad.add (x.toNat*5)) [.int .i64 x_1,.int .i64 x_2,.int .i64 x_3,.slice x_4.a x_4.n x_4.c,.slice x_5.a x_5.n x_5.c]∧∀(b:Nat),af Tryz.prog 40 ⟨[.agg ⟨[.int .i64 x_1,.int .i64 x_2,.int .i64 x_3,.slice x_4.a x_4.n x_4.c,.slice x_5.a x_5.n x_5.c]⟩]⟩ V fun r V=>∃x_6:Bool,r= .bool x_6∧br (!x_6) (Q (.bool false) V) (inI .i64 (x+1)∧J (x+1) V)) (Q (.bool (decide ((a0_0.n:Int)=12))) V)) ((0:Int),()) V
def IT:AC:=(.seq qd (.seq (.seq qd (.block none (.loop ⟨([4]++rg 9 7),[(8,.int .i64)],[]⟩ (.seq qd (.seq (.cond none .leaf .leaf) (.seq (.block none (.seq qd (.seq qd (.cond none (.seq qd .leaf) .leaf)))) qd)))))) (.seq qd .leaf)))
theorem L9 {a0_0:Sl} {V:View} {Q:Value→View→Prop} (h:GN a0_0 V Q):af Tryz.prog 43 ⟨[(.agg ⟨[(.slice a0_0.a a0_0.n a0_0.c)]⟩)]⟩ V Q:=
 obx false Tryz.f43 IT (by kernel_rfl) (by kernel_rfl) (by kernel_rfl) (by kernel_rfl) h
def GO (a0_0:Int) (a0_1:Int) (a0_2:Int) (a0_3:Sl) (a0_4:Sl) (V:View) (Q:Value→View→Prop):Prop:=
 ∀(b:Nat),aA [K.bool] (fun J=>br (!decide (a0_0=1)) (J true V) (af Tryz.prog 40 ⟨[.agg ⟨[.int .i64 a0_0,.int .i64 a0_1,.int .i64 a0_2,.slice a0_3.a a0_3.n a0_3.c,.slice a0_4.a a0_4.n a0_4.c]⟩]⟩ V fun r V=>∃x:Bool,r= .bool x∧J (!x) V)) fun x V=>br x (Q (.int .i64 0) V) (aG [K.int .i64,K.int .i64] (fun(x x_1:Int) (V:View) (J:c7 [K.int .i64,K.int .i64])=>br (decide (x_1<(a0_3.n:Int))) (0≤x_1∧x_1<(a0_3.n:Int)∧∃ad:Addr,a0_3.a=some ad∧∃x_2:Int,V.cell? (ad.add (x_1.toNat*1))=some (.int .i64 x_2)∧aA [K.int .i64] (fun J=>br (!decide (x_2=0)) (inI .i64 (x+1)∧J (x+1) V) (J x V)) fun(x:Int) V=>inI .i64 (x_1+1)∧J x (x_1+1) V) (Q (.int .i64 x) V)) ((0:Int),(0:Int),()) V)
def IU:AC:=(.seq qd (.seq qd (.seq (.seq (.reg ⟨.done,false,[],[],(some ⟨(rg 6 7),[(13,.bool)],[]⟩)⟩) (.cond none (.seq qd .leaf) .leaf)) (.seq (.seq qd (.block none (.loop ⟨([5]++rg 18 8),[(3,.int .i64),(17,.int .i64)],[]⟩ (.seq qd (.seq (.cond none .leaf .leaf) (.seq (.block none (.seq qd (.seq qd (.cond (some ⟨[23,24],[(3,.int .i64)],[]⟩) qd .leaf)))) qd)))))) (.seq qd .leaf)))))
theorem Ma {a0_0:Int} {a0_1:Int} {a0_2:Int} {a0_3:Sl} {a0_4:Sl} {V:View} {Q:Value→View→Prop} (h:GO a0_0 a0_1 a0_2 a0_3 a0_4 V Q):af Tryz.prog 44 ⟨[(.agg ⟨[(.int .i64 a0_0),(.int .i64 a0_1),(.int .i64 a0_2),(.slice a0_3.a a0_3.n a0_3.c),(.slice a0_4.a a0_4.n a0_4.c)]⟩)]⟩ V Q:=
 obx false Tryz.f44 IU (by kernel_rfl) (by kernel_rfl) (by kernel_rfl) (by kernel_rfl) h
def GP (V:View) (Q:Value→View→Prop):Prop:=
 ∀(b:Nat),(0:Int)≤12∧(12:Int)≤12∧(12:Int)*(↑(TypeInfo.bytes (Tables.types (Program.toTables Tryz.prog))[(63:Nat)]):Int)≤140737488355328∧(12:Int)≤140737488355328∧b7 V (Obj.cells (Array.mk (List.flatten (List.replicate (12:Nat) [.int .i64 0,.int .i64 0,.int .i64 0,.slice none 0 0,.slice none 0 0]))) (63:Nat)) fun r V=>∀(b:Nat),True∧∃S:View,S.Le V∧af Tryz.prog 75 ⟨[.int .i64 2]⟩ V fun r_1 V=>∃x x_1 x_2:Int,∃x_3 x_4:Sl,r_1= .agg ⟨[.int .i64 x,.int .i64 x_1,.int .i64 x_2,.slice x_3.a x_3.n x_3.c,.slice x_4.a x_4.n x_4.c]⟩∧S.Le V∧(0:Int)≤0∧0<(↑(Int.toNat (12:Int)):Int)∧∃ad:Addr,some (Addr.mk r 0 none)=some ad∧ay V (ad.add (0:Nat)) (Nat.succ (Nat.succ (Nat.succ (Nat.succ (nat_lit 1)))))∧Q (.agg ⟨[.slice (some (Addr.mk r 0 none)) (12:Nat) (12:Nat)]⟩) (V.sets (ad.add (0:Nat)) [.int .i64 x,.int .i64 x_1,.int .i64 x_2,.slice x_3.a x_3.n x_3.c,.slice x_4.a x_4.n x_4.c])
def IV:AC:=(.seq qd (.seq qd (.seq (.reg ⟨(.fl 0 (.fl 1 (.alt 2 true false (.fl 3 (.alt 4 false false .done .no)) .no))),true,[],[],none⟩) (.seq qd .leaf))))
theorem Mb {_u:Unit} {V:View} {Q:Value→View→Prop} (h:GP V Q):af Tryz.prog 45 ⟨[]⟩ V Q:=
 obx false Tryz.f45 IV (by kernel_rfl) (by kernel_rfl) (by kernel_rfl) (by kernel_rfl) h
def GQ (a0_0:Sl) (a1:Int) (V:View) (Q:Value→View→Prop):Prop:=
 ∀(b b:Nat),af Tryz.prog 69 ⟨[.agg ⟨[.slice a0_0.a a0_0.n a0_0.c]⟩]⟩ V fun r V=>∃x:Bool,r= .bool x∧br (!x) (af Tryz.prog 76 ⟨[.int .i64 1]⟩ V fun r V=>∃x:Sl,∃x_1:Int,r=Value.tuple ⟨[.agg ⟨[.slice x.a x.n x.c]⟩,.int .i64 x_1]⟩∧Q (Value.tuple ⟨[.agg ⟨[.slice x.a x.n x.c]⟩,.int .i64 x_1]⟩) V) (aA [K.bool] (fun J=>br (bif decide (a1<0)then true else decide ((a0_0.n:Int)≤a1)) (J true V) (0≤a1∧a1<(a0_0.n:Int)∧∃ad:Addr,a0_0.a=some ad∧∃x:Int,V.cell? (Addr.add (ad.add (a1.toNat*5)) (0:Nat))=some (.int .i64 x)∧br (!decide (x=1)) (J true V) (0≤a1∧a1<(a0_0.n:Int)∧∃ad:Addr,a0_0.a=some ad∧∃x:Int,V.cell? (Addr.add (ad.add (a1.toNat*5)) (1:Nat))=some (.int .i64 x)∧J (decide (0<x)) V))) fun x V=>br x (af Tryz.prog 76 ⟨[.int .i64 18]⟩ V fun r V=>∃x:Sl,∃x_1:Int,r=Value.tuple ⟨[.agg ⟨[.slice x.a x.n x.c]⟩,.int .i64 x_1]⟩∧Q (Value.tuple ⟨[.agg ⟨[.slice x.a x.n x.c]⟩,.int .i64 x_1]⟩) V) (af Tryz.prog 38 ⟨[.agg ⟨[.slice a0_0.a a0_0.n a0_0.c]⟩]⟩ V fun r V=>∃x:Sl,r= .agg ⟨[.slice x.a x.n x.c]⟩∧∀(b:Nat),0≤a1∧a1<(x.n:Int)∧∃ad:Addr,x.a=some ad∧ay V (ad.add (a1.toNat*5)) (5:Nat)∧Q (Value.tuple ⟨[.agg ⟨[.slice x.a x.n x.c]⟩,.int .i64 0]⟩) (V.sets (ad.add (a1.toNat*5)) [.int .i64 0,.int .i64 0,.int .i64 0,.slice none 0 0,.slice none 0 0])))
def IW:AC:=(.seq qd (.seq (.block none (.seq qd (.cond none (.seq qd .leaf) (.seq (.reg ⟨.done,false,[],[],(some ⟨(rg 15 27),[(14,.bool)],[]⟩)⟩) (.cond none (.seq qd .leaf) .leaf))))) (.seq qd (.seq qd (.seq qd .leaf)))))
theorem Mc {a0_0:Sl} {a1:Int} {V:View} {Q:Value→View→Prop} (h:GQ a0_0 a1 V Q):af Tryz.prog 47 ⟨[(.agg ⟨[(.slice a0_0.a a0_0.n a0_0.c)]⟩),(.int .i64 a1)]⟩ V Q:=
 obx false Tryz.f47 IW (by kernel_rfl) (by kernel_rfl) (by kernel_rfl) (by kernel_rfl) h
def GR (a0_0:Sl) (V:View) (Q:Value→View→Prop):Prop:=
 ∀(b b:Nat),af Tryz.prog 18 ⟨[.agg ⟨[.slice a0_0.a a0_0.n a0_0.c]⟩]⟩ V fun r V=>∃x:Bool,r= .bool x∧br (!x) (Q (.agg ⟨[.slice none 0 0]⟩) V) (af Tryz.prog 77 ⟨[.agg ⟨[.slice a0_0.a a0_0.n a0_0.c]⟩]⟩ V fun r V=>∃x:Sl,r= .agg ⟨[.slice x.a x.n x.c]⟩∧∀(b:Nat),aG [K.int .i64] (fun(x_1:Int) V J=>br (decide (x_1<(x.n:Int))) (0≤x_1∧x_1<(x.n:Int)∧∃ad:Addr,x.a=some ad∧∃x_2 x_3 x_4:Int,∃x_5 x_6:Sl,aq V (ad.add (x_1.toNat*5)) [.int .i64 x_2,.int .i64 x_3,.int .i64 x_4,.slice x_5.a x_5.n x_5.c,.slice x_6.a x_6.n x_6.c]∧∀(b:Nat),aA [] (fun J=>br (bif decide (x_2=1)then decide (x_3=0)else false) (0≤x_1∧x_1<(x.n:Int)∧∃ad:Addr,x.a=some ad∧ay V (ad.add (x_1.toNat*5)) (5:Nat)∧J (V.sets (ad.add (x_1.toNat*5)) [.int .i64 0,.int .i64 0,.int .i64 0,.slice none 0 0,.slice none 0 0])) (J V)) fun(V:View)=>inI .i64 (x_1+1)∧J (x_1+1) V) (Q (.agg ⟨[.slice x.a x.n x.c]⟩) V)) ((0:Int),()) V)
def IX:AC:=(.seq qd (.seq (.seq qd (.cond none (.seq qd .leaf) .leaf)) (.seq qd (.seq (.seq qd (.block none (.loop ⟨([4,5]++rg 16 18),[(15,.int .i64)],[]⟩ (.seq qd (.seq (.cond none .leaf .leaf) (.seq (.block none (.seq qd (.seq qd (.cond (some ⟨(rg 28 5),[],[]⟩) qd .leaf)))) qd)))))) (.seq qd .leaf)))))
theorem Md {a0_0:Sl} {V:View} {Q:Value→View→Prop} (h:GR a0_0 V Q):af Tryz.prog 48 ⟨[(.agg ⟨[(.slice a0_0.a a0_0.n a0_0.c)]⟩)]⟩ V Q:=
 obx false Tryz.f48 IX (by kernel_rfl) (by kernel_rfl) (by kernel_rfl) (by kernel_rfl) h
def GS (a0:Option Addr) (a1_0:Int) (a1_1:ByteArray) (a1_2:ByteArray) (a1_3:Int) (a1_4:Int) (a1_5:Int) (a1_6:Sl) (V:View) (Q:Value→View→Prop):Prop:=
 ∀(b b b:Nat),∃a:Addr,a0=some a∧∃x:Sl,V.cell? (a.add (2:Nat))=some (.slice x.a x.n x.c)∧af Tryz.prog 52 ⟨[.slice x.a x.n x.c]⟩ V fun r V=>∃x:Sl,r= .slice x.a x.n x.c∧aA [K.int .i64,K.sl] (fun J=>br (decide (a1_0=1)) (True∧∃S:View,S.Le V∧∃a:Addr,a0=some a∧∃x:Sl,aq S (a.add (1:Nat)) [.slice x.a x.n x.c]∧af Tryz.prog 78 ⟨[.agg ⟨[.slice x.a x.n x.c]⟩,.string a1_1]⟩ V fun r V=>∃x:Sl,∃x_1:Int,r=Value.tuple ⟨[.agg ⟨[.slice x.a x.n x.c]⟩,.int .i64 x_1]⟩∧J x_1 (Sl.mk x.a x.n x.c) V) (aA [K.int .i64,K.sl] (fun J=>br (decide (a1_0=2)) (True∧∃S:View,S.Le V∧∃a:Addr,a0=some a∧∃x:Sl,aq S (a.add (1:Nat)) [.slice x.a x.n x.c]∧af Tryz.prog 79 ⟨[.agg ⟨[.slice x.a x.n x.c]⟩,.string a1_1]⟩ V fun r V=>∃x:Sl,∃x_1:Int,r=Value.tuple ⟨[.agg ⟨[.slice x.a x.n x.c]⟩,.int .i64 x_1]⟩∧J x_1 (Sl.mk x.a x.n x.c) V) (aA [K.int .i64,K.sl] (fun J=>br (decide (a1_0=3)) (True∧∃S:View,S.Le V∧∃a:Addr,a0=some a∧∃x_1:Sl,aq S (a.add (1:Nat)) [.slice x_1.a x_1.n x_1.c]∧af Tryz.prog 80 ⟨[.agg ⟨[.slice x_1.a x_1.n x_1.c]⟩,.string a1_1,.slice x.a x.n x.c]⟩ V fun r V=>∃x:Sl,∃x_2:Int,r=Value.tuple ⟨[.agg ⟨[.slice x.a x.n x.c]⟩,.int .i64 x_2]⟩∧J x_2 (Sl.mk x.a x.n x.c) V) (aA [K.int .i64,K.sl] (fun J=>br (decide (a1_0=4)) (True∧∃S:View,S.Le V∧∃a:Addr,a0=some a∧∃x:Sl,aq S (a.add (1:Nat)) [.slice x.a x.n x.c]∧af Tryz.prog 81 ⟨[.agg ⟨[.slice x.a x.n x.c]⟩,.string a1_1]⟩ V fun r V=>∃x:Sl,∃x_1:Int,r=Value.tuple ⟨[.agg ⟨[.slice x.a x.n x.c]⟩,.int .i64 x_1]⟩∧J x_1 (Sl.mk x.a x.n x.c) V) (aA [K.int .i64,K.sl] (fun J=>br (decide (a1_0=5)) (True∧∃S:View,S.Le V∧∃a:Addr,a0=some a∧∃x_1:Sl,aq S (a.add (1:Nat)) [.slice x_1.a x_1.n x_1.c]∧af Tryz.prog 82 ⟨[.agg ⟨[.slice x_1.a x_1.n x_1.c]⟩,.string a1_1,.string a1_2,.slice x.a x.n x.c]⟩ V fun r V=>∃x:Sl,∃x_2:Int,r=Value.tuple ⟨[.agg ⟨[.slice x.a x.n x.c]⟩,.int .i64 x_2]⟩∧J x_2 (Sl.mk x.a x.n x.c) V) (True∧∃S:View,S.Le V∧∃a:Addr,a0=some a∧∃x:Sl,aq S (a.add (1:Nat)) [.slice x.a x.n x.c]∧af Tryz.prog 83 ⟨[.agg ⟨[.slice x.a x.n x.c]⟩,.string a1_1,.string a1_2]⟩ V fun r V=>∃x:Sl,∃x_1:Int,r=Value.tuple ⟨[.agg ⟨[.slice x.a x.n x.c]⟩,.int .i64 x_1]⟩∧J x_1 (Sl.mk x.a x.n x.c) V)) fun(x:Int) (x_1:Sl) (V:View)=>J x (Sl.mk x_1.a x_1.n x_1.c) V)) fun(x:Int) (x_1:Sl) (V:View)=>J x (Sl.mk x_1.a x_1.n x_1.c) V)) fun(x:Int) (x_1:Sl) (V:View)=>J x (Sl.mk x_1.a x_1.n x_1.c) V)) fun(x:Int) (x_1:Sl) (V:View)=>J x (Sl.mk x_1.a x_1.n x_1.c) V)) fun(x:Int) (x_1:Sl) (V:View)=>br (!decide (x=0)) (Q (Value.tuple ⟨[.agg ⟨[.int .i64 x,.int .i64 0,.int .i64 0,.int .i64 0,.int .i64 0,.slice none 0 0,.slice none 0 0]⟩,.bool false]⟩) V) (True∧∃S:View,S.Le V∧∃a:Addr,a0=some a∧∃x:Sl,aq S (a.add (1:Nat)) [.slice x.a x.n x.c]∧af Tryz.prog 17 ⟨[.agg ⟨[.slice x.a x.n x.c]⟩,.agg ⟨[.slice x_1.a x_1.n x_1.c]⟩]⟩ V fun r V=>∃x:Bool,r= .bool x∧∃a:Addr,a0=some a∧ay V (a.add (1:Nat)) (nat_lit 1)∧Q (Value.tuple ⟨[.agg ⟨[.int .i64 0,.int .i64 0,.int .i64 0,.int .i64 0,.int .i64 0,.slice none 0 0,.slice none 0 0]⟩,.bool !x]⟩) (V.sets (a.add (1:Nat)) [.slice x_1.a x_1.n x_1.c]))
def IY:AC:=(.seq qd (.seq qd (.seq qd (.seq qd (.seq (.seq qd (.block none (.seq qd (.cond (some ⟨(rg 17 12++rg 31 62),[(7,.int .i64)],[(2,[.sl])]⟩) (.reg ⟨(.fl 0 (.fl 1 (.fl 2 (.fl 3 (.fl 4 (.fl 5 (.alt 6 false false (.fl 7 (.fl 8 (.fl 9 (.alt 10 false false (.fl 11 .done) .no)))) .no))))))),true,[],[],none⟩) (.seq qd (.cond (some ⟨(rg 17 12++rg 43 50),[(7,.int .i64)],[(2,[.sl])]⟩) (.reg ⟨(.fl 0 (.fl 1 (.fl 2 (.fl 3 (.fl 4 (.fl 5 (.alt 6 false false (.fl 7 (.fl 8 (.fl 9 (.alt 10 false false (.fl 11 .done) .no)))) .no))))))),true,[],[],none⟩) (.seq qd (.cond (some ⟨(rg 17 12++rg 55 38),[(7,.int .i64)],[(2,[.sl])]⟩) (.reg ⟨(.fl 0 (.fl 1 (.fl 2 (.fl 3 (.fl 4 (.fl 5 (.fl 6 (.alt 7 false false (.fl 8 (.fl 9 (.fl 10 (.alt 11 false false (.fl 12 .done) .no)))) .no)))))))),true,[],[],none⟩) (.seq qd (.cond (some ⟨(rg 17 12++rg 68 25),[(7,.int .i64)],[(2,[.sl])]⟩) (.reg ⟨(.fl 0 (.fl 1 (.fl 2 (.fl 3 (.fl 4 (.fl 5 (.alt 6 false false (.fl 7 (.fl 8 (.fl 9 (.alt 10 false false (.fl 11 .done) .no)))) .no))))))),true,[],[],none⟩) (.seq qd (.cond (some ⟨(rg 17 12++rg 80 13),[(7,.int .i64)],[(2,[.sl])]⟩) (.reg ⟨(.fl 0 (.fl 1 (.fl 2 (.fl 3 (.fl 4 (.fl 5 (.fl 6 (.fl 7 (.fl 8 (.alt 9 false false (.fl 10 (.fl 11 (.fl 12 (.alt 13 false false (.fl 14 .done) .no)))) .no)))))))))),true,[],[],none⟩) (.reg ⟨(.fl 0 (.fl 1 (.fl 2 (.fl 3 (.fl 4 (.fl 5 (.fl 6 (.fl 7 (.alt 8 false false (.fl 9 (.fl 10 (.fl 11 (.alt 12 false false (.fl 13 .done) .no)))) .no))))))))),true,[],[],none⟩))))))))))))) (.seq (.seq qd (.cond none (.seq qd .leaf) .leaf)) (.seq (.reg ⟨(.fl 0 (.fl 1 (.fl 2 (.fl 3 (.fl 4 (.alt 5 false false (.fl 6 .done) .no)))))),true,[],[],none⟩) (.seq qd (.seq qd .leaf)))))))))
theorem Me {a0:Option Addr} {a1_0:Int} {a1_1:ByteArray} {a1_2:ByteArray} {a1_3:Int} {a1_4:Int} {a1_5:Int} {a1_6:Sl} {V:View} {Q:Value→View→Prop} (h:GS a0 a1_0 a1_1 a1_2 a1_3 a1_4 a1_5 a1_6 V Q):af Tryz.prog 49 ⟨[(.pointer a0),(.agg ⟨[(.int .i64 a1_0),(.string a1_1),(.string a1_2),(.int .i64 a1_3),(.int .i64 a1_4),(.int .i64 a1_5),(.slice a1_6.a a1_6.n a1_6.c)]⟩)]⟩ V Q:=
 obx false Tryz.f49 IY (by kernel_rfl) (by kernel_rfl) (by kernel_rfl) (by kernel_rfl) h
def GU (a0:Option Addr) (a1_0:Int) (a1_1:ByteArray) (a1_2:ByteArray) (a1_3:Int) (a1_4:Int) (a1_5:Int) (a1_6:Sl) (V:View) (Q:Value→View→Prop):Prop:=
 ∀(b b:Nat),True∧∃S:View,S.Le V∧∃a:Addr,a0=some a∧∃x:Sl,aq S (a.add (1:Nat)) [.slice x.a x.n x.c]∧af Tryz.prog 84 ⟨[.agg ⟨[.slice x.a x.n x.c]⟩,.string a1_1]⟩ V fun r V=>∃x x_1:Int,r=Value.tuple ⟨[.int .i64 x,.int .i64 x_1]⟩∧br (!decide (x_1=0)) (Q (.agg ⟨[.int .i64 x_1,.int .i64 0,.int .i64 0,.int .i64 0,.int .i64 0,.slice none 0 0,.slice none 0 0]⟩) V) (∃a:Addr,a0=some a∧∃x_2:Sl,V.cell? (Addr.add (a.add (1:Nat)) (0:Nat))=some (.slice x_2.a x_2.n x_2.c)∧0≤x∧x<(x_2.n:Int)∧∃ad:Addr,x_2.a=some ad∧∃x_3 x_4 x_5:Int,∃x_6 x_7:Sl,aq V (ad.add (x.toNat*5)) [.int .i64 x_3,.int .i64 x_4,.int .i64 x_5,.slice x_6.a x_6.n x_6.c,.slice x_7.a x_7.n x_7.c]∧∀(b:Nat),br (decide (a1_0=7)) (Q (.agg ⟨[.int .i64 0,.int .i64 0,.int .i64 x_5,.int .i64 x_3,.int .i64 x_4,.slice none 0 0,.slice none 0 0]⟩) V) (br (bif decide (a1_0=8)then !decide (x_3=2)else false) (Q (.agg ⟨[.int .i64 11,.int .i64 0,.int .i64 0,.int .i64 0,.int .i64 0,.slice none 0 0,.slice none 0 0]⟩) V) (br (decide (a1_0=8)) (aG [K.sl,K.int .i64] (fun(x:Sl) (x_8:Int) (V:View) (J:c7 [K.sl,K.int .i64])=>br (decide (x_8<(x_7.n:Int))) (0≤x_8∧x_8<(x_7.n:Int)∧∃ad:Addr,x_7.a=some ad∧∃x_9:ByteArray,∃x_10:Int,aq V (ad.add (x_8.toNat*2)) [.string x_9,.int .i64 x_10]∧∀(b:Nat),b7 V (Obj.cells (Array.mk (bD [.string ⟨#[]⟩] (0:Nat) [.string x_9])) (9:Nat)) fun r V=>apV V (9:Nat) (1:Nat) (16:Nat) [.string ⟨#[]⟩] (Sl.mk x.a x.n x.c) (.slice (some (Addr.mk r 0 none)) (1:Nat) (1:Nat)) fun s V=>inI .i64 (x_8+1)∧J (Sl.mk s.a s.n s.c) (x_8+1) V) (Q (.agg ⟨[.int .i64 0,.int .i64 0,.int .i64 0,.int .i64 0,.int .i64 0,.slice none 0 0,.slice x.a x.n x.c]⟩) V)) (Sl.mk none (0:Nat) (0:Nat),(0:Int),()) V) (br (decide (x_3=2)) (Q (.agg ⟨[.int .i64 10,.int .i64 0,.int .i64 0,.int .i64 0,.int .i64 0,.slice none 0 0,.slice none 0 0]⟩) V) (∃a:Addr,a0=some a∧∃x_8:Sl,V.cell? (a.add (2:Nat))=some (.slice x_8.a x_8.n x_8.c)∧af Tryz.prog 85 ⟨[.slice x_8.a x_8.n x_8.c,.int .i64 x]⟩ V fun r V=>∃x:Sl,∃x_9 x_10:Int,r=Value.tuple ⟨[.slice x.a x.n x.c,.int .i64 x_9,.int .i64 x_10]⟩∧br (!decide (x_10=0)) (Q (.agg ⟨[.int .i64 x_10,.int .i64 0,.int .i64 0,.int .i64 0,.int .i64 0,.slice none 0 0,.slice none 0 0]⟩) V) (∃a:Addr,a0=some a∧ay V (a.add (2:Nat)) (nat_lit 1)∧Q (.agg ⟨[.int .i64 0,.int .i64 x_9,.int .i64 0,.int .i64 0,.int .i64 0,.slice none 0 0,.slice none 0 0]⟩) (V.sets (a.add (2:Nat)) [.slice x.a x.n x.c])))))))
def IZ:AC:=(.seq qd (.seq (.reg ⟨(.fl 0 (.fl 1 (.fl 2 (.fl 3 (.fl 4 (.fl 5 (.alt 6 false false (.fl 7 (.fl 8 (.fl 9 (.fl 10 (.fl 11 .done))))) .no))))))),true,[],[],none⟩) (.seq (.seq qd (.cond none (.seq qd .leaf) .leaf)) (.seq qd (.seq (.block none (.seq qd (.cond none (.seq qd .leaf) (.seq qd (.cond none (.seq qd .leaf) (.seq qd (.cond none (.seq qd (.seq (.seq qd (.block none (.loop ⟨([10]++rg 64 9),[(8,.sl),(63,.int .i64)],[]⟩ (.seq qd (.seq (.cond none .leaf .leaf) (.seq (.block none (.seq qd qd)) qd)))))) (.seq qd .leaf))) (.seq qd (.cond none (.seq qd .leaf) .leaf))))))))) (.seq qd (.seq (.seq qd (.cond none (.seq qd .leaf) .leaf)) (.seq qd (.seq qd .leaf)))))))))
theorem Mf {a0:Option Addr} {a1_0:Int} {a1_1:ByteArray} {a1_2:ByteArray} {a1_3:Int} {a1_4:Int} {a1_5:Int} {a1_6:Sl} {V:View} {Q:Value→View→Prop} (h:GU a0 a1_0 a1_1 a1_2 a1_3 a1_4 a1_5 a1_6 V Q):af Tryz.prog 50 ⟨[(.pointer a0),(.agg ⟨[(.int .i64 a1_0),(.string a1_1),(.string a1_2),(.int .i64 a1_3),(.int .i64 a1_4),(.int .i64 a1_5),(.slice a1_6.a a1_6.n a1_6.c)]⟩)]⟩ V Q:=
 obx false Tryz.f50 IZ (by kernel_rfl) (by kernel_rfl) (by kernel_rfl) (by kernel_rfl) h
def GV (a0:Sl) (a1:Int) (V:View) (Q:Value→View→Prop):Prop:=
 af Tryz.prog 86 ⟨[.slice a0.a a0.n a0.c,.int .i64 a1]⟩ V fun r V=>∃x x_1:Int,r=Value.tuple ⟨[.int .i64 x,.int .i64 x_1]⟩∧br (!decide (x_1=0)) (Q (Value.tuple ⟨[.slice none 0 0,.int .i64 0,.int .i64 x_1]⟩) V) (apV V (3:Nat) (1:Nat) (8:Nat) [.int .i64 0] (Sl.mk none (0:Nat) (0:Nat)) (.slice a0.a a0.n a0.c) fun s V=>0≤a1∧a1<(s.n:Int)∧∃ad:Addr,s.a=some ad∧ay V (ad.add (a1.toNat*1)) (1:Nat)∧Q (Value.tuple ⟨[.slice s.a s.n s.c,.int .i64 x,.int .i64 0]⟩) (V.sets (ad.add (a1.toNat*1)) [.int .i64 (-1)]))
def I0:AC:=(.seq qd (.seq qd (.seq (.seq qd (.cond none (.seq qd .leaf) .leaf)) (.seq qd (.seq qd (.seq qd .leaf))))))
theorem Mg {a0:Sl} {a1:Int} {V:View} {Q:Value→View→Prop} (h:GV a0 a1 V Q):af Tryz.prog 51 ⟨[(.slice a0.a a0.n a0.c),(.int .i64 a1)]⟩ V Q:=
 obx false Tryz.f51 I0 (by kernel_rfl) (by kernel_rfl) (by kernel_rfl) (by kernel_rfl) h
def GW (a0:Sl) (V:View) (Q:Value→View→Prop):Prop:=
 af Tryz.prog 87 ⟨[.slice a0.a a0.n a0.c]⟩ V fun r V=>∃x:Bool,r= .bool x∧br (!x) (Q (.slice none 0 0) V) ((0:Int)≤12∧(12:Int)≤12∧(12:Int)*(↑(TypeInfo.bytes (Tables.types (Program.toTables Tryz.prog))[(4:Nat)]):Int)≤140737488355328∧(12:Int)≤140737488355328∧b7 V (Obj.cells (Array.mk (List.flatten (List.replicate (12:Nat) [.bool false]))) (4:Nat)) fun r V=>aG [K.int .i64] (fun(x:Int) V J=>br (decide (x<(a0.n:Int))) (0≤x∧x<(a0.n:Int)∧∃ad:Addr,a0.a=some ad∧∃x_1:Int,V.cell? (ad.add (x.toNat*1))=some (.int .i64 x_1)∧aA [] (fun J=>br (decide (0≤x_1)) (0≤x_1∧x_1<(↑(Int.toNat (12:Int)):Int)∧∃ad:Addr,some (Addr.mk r 0 none)=some ad∧ay V (ad.add (x_1.toNat*1)) (1:Nat)∧J (V.sets (ad.add (x_1.toNat*1)) [.bool true])) (J V)) fun(V:View)=>inI .i64 (x+1)∧J (x+1) V) (Q (.slice (some (Addr.mk r 0 none)) (12:Nat) (12:Nat)) V)) ((0:Int),()) V)
def I1:AC:=(.seq qd (.seq (.seq qd (.cond none (.seq qd .leaf) .leaf)) (.seq qd (.seq (.seq qd (.block none (.loop ⟨([5]++rg 13 9),[(12,.int .i64)],[]⟩ (.seq qd (.seq (.cond none .leaf .leaf) (.seq (.block none (.seq qd (.seq qd (.cond (some ⟨[18,19,20],[],[]⟩) qd .leaf)))) qd)))))) (.seq qd .leaf)))))
theorem Mh {a0:Sl} {V:View} {Q:Value→View→Prop} (h:GW a0 V Q):af Tryz.prog 52 ⟨[(.slice a0.a a0.n a0.c)]⟩ V Q:=
 obx false Tryz.f52 I1 (by kernel_rfl) (by kernel_rfl) (by kernel_rfl) (by kernel_rfl) h
def GX (a0_0:Sl) (a1:Int) (V:View) (Q:Value→View→Prop):Prop:=
 ∀(b b:Nat),af Tryz.prog 18 ⟨[.agg ⟨[.slice a0_0.a a0_0.n a0_0.c]⟩]⟩ V fun r V=>∃x:Bool,r= .bool x∧br (!x) (Q (Value.tuple ⟨[.agg ⟨[.slice none 0 0]⟩,.int .i64 1]⟩) V) (aA [K.bool] (fun J=>br (bif decide (a1<0)then true else decide ((a0_0.n:Int)≤a1)) (J true V) (0≤a1∧a1<(a0_0.n:Int)∧∃ad:Addr,a0_0.a=some ad∧∃x:Int,V.cell? (Addr.add (ad.add (a1.toNat*5)) (0:Nat))=some (.int .i64 x)∧br (!decide (x=1)) (J true V) (0≤a1∧a1<(a0_0.n:Int)∧∃ad:Addr,a0_0.a=some ad∧∃x:Int,V.cell? (Addr.add (ad.add (a1.toNat*5)) (1:Nat))=some (.int .i64 x)∧J (!decide (x=0)) V))) fun x V=>br x (Q (Value.tuple ⟨[.agg ⟨[.slice none 0 0]⟩,.int .i64 18]⟩) V) (af Tryz.prog 77 ⟨[.agg ⟨[.slice a0_0.a a0_0.n a0_0.c]⟩]⟩ V fun r V=>∃x:Sl,r= .agg ⟨[.slice x.a x.n x.c]⟩∧∀(b:Nat),0≤a1∧a1<(x.n:Int)∧∃ad:Addr,x.a=some ad∧ay V (ad.add (a1.toNat*5)) (5:Nat)∧Q (Value.tuple ⟨[.agg ⟨[.slice x.a x.n x.c]⟩,.int .i64 0]⟩) (V.sets (ad.add (a1.toNat*5)) [.int .i64 0,.int .i64 0,.int .i64 0,.slice none 0 0,.slice none 0 0])))
def I2:AC:=(.seq qd (.seq (.seq qd (.cond none (.seq qd .leaf) .leaf)) (.seq (.seq (.reg ⟨.done,false,[],[],(some ⟨(rg 11 26),[(37,.bool)],[]⟩)⟩) (.cond none (.seq qd .leaf) .leaf)) (.seq qd (.seq qd (.seq qd .leaf))))))
theorem Mi {a0_0:Sl} {a1:Int} {V:View} {Q:Value→View→Prop} (h:GX a0_0 a1 V Q):af Tryz.prog 53 ⟨[(.agg ⟨[(.slice a0_0.a a0_0.n a0_0.c)]⟩),(.int .i64 a1)]⟩ V Q:=
 obx false Tryz.f53 I2 (by kernel_rfl) (by kernel_rfl) (by kernel_rfl) (by kernel_rfl) h
def GY (a0:Option Addr) (a1_0:Int) (a1_1:ByteArray) (a1_2:ByteArray) (a1_3:Int) (a1_4:Int) (a1_5:Int) (a1_6:Sl) (V:View) (Q:Value→View→Prop):Prop:=
 ∀(b b:Nat),True∧∃S:View,S.Le V∧∃a:Addr,a0=some a∧∃x:Sl,S.cell? (a.add (2:Nat))=some (.slice x.a x.n x.c)∧af Tryz.prog 86 ⟨[.slice x.a x.n x.c,.int .i64 a1_3]⟩ V fun r V=>∃x x_1:Int,r=Value.tuple ⟨[.int .i64 x,.int .i64 x_1]⟩∧br (!decide (x_1=0)) (Q (Value.tuple ⟨[.agg ⟨[.int .i64 x_1,.int .i64 0,.int .i64 0,.int .i64 0,.int .i64 0,.slice none 0 0,.slice none 0 0]⟩,.bool false]⟩) V) (br (decide (a1_0=11)) (True∧∃S:View,S.Le V∧∃a:Addr,a0=some a∧∃x_2:Sl,aq S (a.add (1:Nat)) [.slice x_2.a x_2.n x_2.c]∧af Tryz.prog 88 ⟨[.agg ⟨[.slice x_2.a x_2.n x_2.c]⟩,.int .i64 x,.int .i64 a1_4,.int .i64 a1_5]⟩ V fun r V=>∃x_3:Sl,∃x_4:Int,r=Value.tuple ⟨[.slice x_3.a x_3.n x_3.c,.int .i64 x_4]⟩∧br (!decide (x_4=0)) (Q (Value.tuple ⟨[.agg ⟨[.int .i64 x_4,.int .i64 0,.int .i64 0,.int .i64 0,.int .i64 0,.slice none 0 0,.slice none 0 0]⟩,.bool false]⟩) V) (aG [K.sl,K.int .i64] (fun(x_5:Sl) (x_6:Int) (V:View) (J:c7 [K.sl,K.int .i64])=>br (decide (x_6<(x_3.n:Int))) (0≤x_6∧x_6<(x_3.n:Int)∧∃ad:Addr,x_3.a=some ad∧∃x_7 x_8 x_9:Int,aq V (ad.add (x_6.toNat*3)) [.int .i64 x_7,.int .i64 x_8,.int .i64 x_9]∧∀(b:Nat),True∧∃S:View,S.Le V∧inI .i64 (x_8+x_9)∧af Tryz.prog 58 ⟨[.pointer a0,.int .i64 x,.int .i64 x_7]⟩ V fun r V=>∃x:Sl,r= .slice x.a x.n x.c∧S.Le V∧0≤x_8∧x_8≤x_8+x_9∧x_8+x_9≤(↑x.c:Int)∧apV V (5:Nat) (1:Nat) (1:Nat) [.int .u8 0] (Sl.mk x_5.a x_5.n x_5.c) (.slice (if x.c=x_8.toNat then x.a else Option.map (fun(x:Addr)=>x.add (x_8.toNat*1)) x.a) (Int.toNat (x_8+x_9)-x_8.toNat) (x.c-x_8.toNat)) fun s V=>inI .i64 (x_6+1)∧J (Sl.mk s.a s.n s.c) (x_6+1) V) (Q (Value.tuple ⟨[.agg ⟨[.int .i64 0,.int .i64 0,.int .i64 (x_5.n:Int),.int .i64 0,.int .i64 0,.slice x_5.a x_5.n x_5.c,.slice none 0 0]⟩,.bool false]⟩) V)) (Sl.mk none (0:Nat) (0:Nat),(0:Int),()) V)) (∀(b:Nat),aA [K.int .i64,K.sl,K.int .i64,K.sl] (fun J=>br (decide (a1_0=12)) (True∧∃S:View,S.Le V∧∃a:Addr,a0=some a∧∃x_2:Sl,aq S (a.add (1:Nat)) [.slice x_2.a x_2.n x_2.c]∧∃a:Addr,a0=some a∧∃x_3:Int,S.cell? (a.add (0:Nat))=some (.int .i64 x_3)∧af Tryz.prog 89 ⟨[.agg ⟨[.slice x_2.a x_2.n x_2.c]⟩,.int .i64 x_3,.int .i64 x,.int .i64 a1_4,.slice a1_6.a a1_6.n a1_6.c]⟩ V fun r V=>∃x x_4:Sl,∃x_5:Int,r=Value.tuple ⟨[.agg ⟨[.slice x.a x.n x.c]⟩,.slice x_4.a x_4.n x_4.c,.int .i64 x_5]⟩∧J x_5 (Sl.mk x_4.a x_4.n x_4.c) (a1_6.n:Int) (Sl.mk x.a x.n x.c) V) (True∧∃S:View,S.Le V∧∃a:Addr,a0=some a∧∃x_2:Sl,aq S (a.add (1:Nat)) [.slice x_2.a x_2.n x_2.c]∧af Tryz.prog 90 ⟨[.agg ⟨[.slice x_2.a x_2.n x_2.c]⟩,.int .i64 x,.int .i64 a1_4]⟩ V fun r V=>∃x x_3:Sl,∃x_4:Int,r=Value.tuple ⟨[.agg ⟨[.slice x.a x.n x.c]⟩,.slice x_3.a x_3.n x_3.c,.int .i64 x_4]⟩∧J x_4 (Sl.mk x_3.a x_3.n x_3.c) (0:Int) (Sl.mk x.a x.n x.c) V)) fun(x:Int) (x_2:Sl) (x_3:Int) (x_4:Sl) (V:View)=>br (!decide (x=0)) (Q (Value.tuple ⟨[.agg ⟨[.int .i64 x,.int .i64 0,.int .i64 0,.int .i64 0,.int .i64 0,.slice none 0 0,.slice none 0 0]⟩,.bool false]⟩) V) (aA [K.bool] (fun J=>True∧∃S:View,S.Le V∧br (decide (0<(x_2.n:Int))) (J true V) (∃a:Addr,a0=some a∧∃x:Sl,aq S (a.add (1:Nat)) [.slice x.a x.n x.c]∧af Tryz.prog 17 ⟨[.agg ⟨[.slice x.a x.n x.c]⟩,.agg ⟨[.slice x_4.a x_4.n x_4.c]⟩]⟩ V fun r V=>∃x:Bool,r= .bool x∧J (!x) V)) fun x V=>af Tryz.prog 91 ⟨[.pointer a0,.agg ⟨[.slice x_4.a x_4.n x_4.c]⟩,.slice x_2.a x_2.n x_2.c]⟩ V fun r V=>r=Value.tuple ⟨[]⟩∧Q (Value.tuple ⟨[.agg ⟨[.int .i64 0,.int .i64 0,.int .i64 x_3,.int .i64 0,.int .i64 0,.slice none 0 0,.slice none 0 0]⟩,.bool x]⟩) V)))
def I3:AC:=(.seq qd (.seq (.reg ⟨(.fl 0 (.fl 1 (.fl 2 (.fl 3 (.fl 4 (.fl 5 (.alt 6 false false (.fl 7 (.fl 8 (.fl 9 (.fl 10 (.fl 11 .done))))) .no))))))),true,[],[],none⟩) (.seq (.seq qd (.cond none (.seq qd .leaf) .leaf)) (.seq (.seq qd (.cond none (.seq (.reg ⟨(.fl 0 (.fl 1 (.fl 2 (.fl 3 (.fl 4 (.fl 5 (.fl 6 (.fl 7 (.fl 8 (.alt 9 false false (.fl 10 (.fl 11 (.fl 12 (.fl 13 (.fl 14 .done))))) .no)))))))))),true,[],[],none⟩) (.seq (.seq qd (.cond none (.seq qd .leaf) .leaf)) (.seq qd (.seq (.seq qd (.block none (.loop ⟨([12]++rg 54 19),[(10,.sl),(53,.int .i64)],[]⟩ (.seq qd (.seq (.cond none .leaf .leaf) (.seq (.block none (.seq qd (.reg ⟨(.fl 0 (.fl 1 (.fl 2 (.fl 3 (.fl 4 (.fl 6 (.fl 7 (.fl 8 (.fl 9 (.fl 10 (.fl 11 (.fl 12 (.alt 5 true false (.fl 13 (.alt 14 false false (.fl 15 .done) .no)) .no))))))))))))),true,[],[],none⟩))) qd)))))) (.seq qd .leaf))))) .leaf)) (.seq qd (.seq qd (.seq qd (.seq (.seq qd (.cond (some ⟨(rg 80 33),[(7,.int .i64),(14,.sl),(15,.int .i64)],[(2,[.sl])]⟩) (.seq (.reg ⟨(.fl 0 (.fl 1 (.fl 2 (.fl 3 (.fl 4 (.fl 5 (.fl 6 (.fl 7 (.fl 8 (.fl 9 (.fl 10 (.fl 11 (.fl 12 (.alt 13 false false (.fl 14 (.fl 15 (.fl 16 (.fl 17 (.alt 18 false false (.fl 19 (.fl 20 .done)) .no))))) .no)))))))))))))),true,[],[],none⟩) qd) (.reg ⟨(.fl 0 (.fl 1 (.fl 2 (.fl 3 (.fl 4 (.fl 5 (.fl 6 (.alt 7 false false (.fl 8 (.fl 9 (.fl 10 (.fl 11 (.alt 12 false false (.fl 13 (.fl 14 .done)) .no))))) .no)))))))),true,[],[],none⟩))) (.seq (.seq qd (.cond none (.seq qd .leaf) .leaf)) (.seq (.reg ⟨(.fl 0 (.fl 1 (.fl 2 (.fl 3 (.fl 4 (.fl 5 (.fl 6 (.fl 7 (.fl 8 (.alt 9 false false (.fl 10 (.fl 11 (.fl 12 .done))) .no)))))))))),true,[],[],(some ⟨(rg 117 12),[(16,.bool)],[]⟩)⟩) (.seq qd (.seq qd .leaf))))))))))))
theorem Mj {a0:Option Addr} {a1_0:Int} {a1_1:ByteArray} {a1_2:ByteArray} {a1_3:Int} {a1_4:Int} {a1_5:Int} {a1_6:Sl} {V:View} {Q:Value→View→Prop} (h:GY a0 a1_0 a1_1 a1_2 a1_3 a1_4 a1_5 a1_6 V Q):af Tryz.prog 54 ⟨[(.pointer a0),(.agg ⟨[(.int .i64 a1_0),(.string a1_1),(.string a1_2),(.int .i64 a1_3),(.int .i64 a1_4),(.int .i64 a1_5),(.slice a1_6.a a1_6.n a1_6.c)]⟩)]⟩ V Q:=
 obx false Tryz.f54 I3 (by kernel_rfl) (by kernel_rfl) (by kernel_rfl) (by kernel_rfl) h
def GZ (a0_0:Sl) (a1:Int) (V:View) (Q:Value→View→Prop):Prop:=
 ∀(b:Nat),af Tryz.prog 43 ⟨[.agg ⟨[.slice a0_0.a a0_0.n a0_0.c]⟩]⟩ V fun r V=>∃x:Bool,r= .bool x∧br (bif !x then true else decide (a1<0)) (Q (.int .i64 0) V) (af Tryz.prog 19 ⟨[.agg ⟨[.slice a0_0.a a0_0.n a0_0.c]⟩]⟩ V fun r V=>∃x:Int,r= .int .i64 x∧inI .i64 (a1-x)∧Q (.int .i64 (if a1-x>(0:Int)then a1-x else(0:Int))) V)
def I4:AC:=(.seq qd (.seq (.seq qd (.cond none (.seq qd .leaf) .leaf)) (.seq qd .leaf)))
theorem Mk {a0_0:Sl} {a1:Int} {V:View} {Q:Value→View→Prop} (h:GZ a0_0 a1 V Q):af Tryz.prog 55 ⟨[(.agg ⟨[(.slice a0_0.a a0_0.n a0_0.c)]⟩),(.int .i64 a1)]⟩ V Q:=
 obx false Tryz.f55 I4 (by kernel_rfl) (by kernel_rfl) (by kernel_rfl) (by kernel_rfl) h
def zj (a0:Sl) (V:View) (Q:Value→View→Prop):Prop:=
 br (Option.isNone a0.a) (Q (.slice none 0 0) V) (b7 V (Obj.cells ⟨[]⟩ (3:Nat)) fun r V=>apV V (3:Nat) (1:Nat) (8:Nat) [.int .i64 0] (Sl.mk (some (Addr.mk r 0 none)) (0:Nat) (0:Nat)) (.slice a0.a a0.n a0.c) fun s V=>Q (.slice s.a s.n s.c) V)
def I5:AC:=(.seq qd (.seq (.seq qd (.cond none (.seq qd .leaf) .leaf)) (.seq qd .leaf)))
theorem Bq {a0:Sl} {V:View} {Q:Value→View→Prop} (h:zj a0 V Q):af Tryz.prog 56 ⟨[(.slice a0.a a0.n a0.c)]⟩ V Q:=
 obx false Tryz.f56 I5 (by kernel_rfl) (by kernel_rfl) (by kernel_rfl) (by kernel_rfl) h
def G0 (a0:Int) (a1:Int) (V:View) (Q:Value→View→Prop):Prop:=
 af Tryz.prog 92 ⟨[.int .i64 a0,.int .i64 a1]⟩ V fun r V=>∃x:Bool,r= .bool x∧br (!x) (Q (.slice none 0 0) V) (aG [K.int .i64,K.int .i64,K.sl] (fun(x x_1:Int) (x_2:Sl) (V:View) (J:c7 [K.int .i64,K.int .i64,K.sl])=>br (decide (0<x_1)) ((16:Int)≠0∧inI .i64 ((16:Int)-Int.tmod x (16:Int))∧(16:Int)≠0∧inI .i64 (Int.tdiv x (16:Int))∧b7 V (Obj.cells (Array.mk (bD [.int .i64 0,.int .i64 0,.int .i64 0] (0:Nat) [.int .i64 (Int.tdiv x (16:Int)),.int .i64 (Int.tmod x (16:Int)),.int .i64 (if(16:Int)-Int.tmod x 16<x_1 then(16:Int)-Int.tmod x (16:Int)else x_1)])) (98:Nat)) fun r V=>apV V (98:Nat) (3:Nat) (24:Nat) [.int .i64 0,.int .i64 0,.int .i64 0] (Sl.mk x_2.a x_2.n x_2.c) (.slice (some (Addr.mk r 0 none)) (1:Nat) (1:Nat)) fun s V=>inI .i64 (x+if(16:Int)-Int.tmod x 16<x_1 then(16:Int)-Int.tmod x (16:Int)else x_1)∧inI .i64 (x_1-if(16:Int)-Int.tmod x 16<x_1 then(16:Int)-Int.tmod x (16:Int)else x_1)∧J (x+if(16:Int)-Int.tmod x 16<x_1 then(16:Int)-Int.tmod x (16:Int)else x_1) (x_1-if(16:Int)-Int.tmod x 16<x_1 then(16:Int)-Int.tmod x (16:Int)else x_1) (Sl.mk s.a s.n s.c) V) (Q (.slice x_2.a x_2.n x_2.c) V)) (a0,a1,Sl.mk none (0:Nat) (0:Nat),()) V)
def I6:AC:=(.seq qd (.seq (.seq qd (.cond none (.seq qd .leaf) .leaf)) (.seq qd (.seq (.block none (.loop ⟨([6,7]++rg 12 22),[(0,.int .i64),(1,.int .i64),(5,.sl)],[]⟩ (.seq (.seq qd (.cond none .leaf .leaf)) (.block none (.seq qd (.seq qd (.seq qd qd))))))) (.seq qd .leaf)))))
theorem Ml {a0:Int} {a1:Int} {V:View} {Q:Value→View→Prop} (h:G0 a0 a1 V Q):af Tryz.prog 57 ⟨[(.int .i64 a0),(.int .i64 a1)]⟩ V Q:=
 obx false Tryz.f57 I6 (by kernel_rfl) (by kernel_rfl) (by kernel_rfl) (by kernel_rfl) h
def G1 (a0:Option Addr) (a1:Int) (a2:Int) (V:View) (Q:Value→View→Prop):Prop:=
 (0:Int)≤16∧(16:Int)≤16∧(16:Int)*(↑(TypeInfo.bytes (Tables.types (Program.toTables Tryz.prog))[(5:Nat)]):Int)≤140737488355328∧(16:Int)≤140737488355328∧b7 V (Obj.cells (Array.mk (List.flatten (List.replicate (16:Nat) [.int .u8 0]))) (5:Nat)) fun r V=>∃a:Addr,a0=some a∧∃x:Sl,V.cell? (Addr.add (a.add (1:Nat)) (0:Nat))=some (.slice x.a x.n x.c)∧0≤a1∧a1<(x.n:Int)∧∃ad:Addr,x.a=some ad∧∃x:Sl,V.cell? (Addr.add (ad.add (a1.toNat*5)) (3:Nat))=some (.slice x.a x.n x.c)∧0≤a2∧a2<(x.n:Int)∧∃ad:Addr,x.a=some ad∧∃x:Int,V.cell? (ad.add (a2.toNat*1))=some (.int .i64 x)∧aA [] (fun J=>br (!decide (x=0)) (∃a:Addr,a0=some a∧0≤a1∧a1<(↑(12:Nat):Int)∧0≤a2∧a2<(↑(5:Nat):Int)∧∃x:Sl,V.cell? (Addr.add (Addr.add (a.add (4:Nat)) (a1.toNat*5)) (a2.toNat*1))=some (.slice x.a x.n x.c)∧∃(src:List Value),rowAt V x.a (min x.n (16:Nat)*1) src∧(List.all src fun(x:Value)=>Value.oneCell' x)=true∧ay V (Addr.mk r 0 none) (List.length src)∧J (V.sets (Addr.mk r 0 none) src)) (J V)) fun(V:View)=>Q (.slice (some (Addr.mk r 0 none)) (16:Nat) (16:Nat)) V
def I7:AC:=(.seq qd (.seq qd (.seq (.seq qd (.cond (some ⟨(rg 22 10),[],[]⟩) qd .leaf)) (.seq qd .leaf))))
theorem Mm {a0:Option Addr} {a1:Int} {a2:Int} {V:View} {Q:Value→View→Prop} (h:G1 a0 a1 a2 V Q):af Tryz.prog 58 ⟨[(.pointer a0),(.int .i64 a1),(.int .i64 a2)]⟩ V Q:=
 obx false Tryz.f58 I7 (by kernel_rfl) (by kernel_rfl) (by kernel_rfl) (by kernel_rfl) h
def G2 (a0:Sl) (a1:Sl) (V:View) (Q:Value→View→Prop):Prop:=
 br (!decide ((a0.n:Int)=(a1.n:Int))) (Q (.bool false) V) (aG [K.int .i64] (fun(x:Int) V J=>br (decide (x<(a0.n:Int))) (True∧∃S:View,S.Le V∧0≤x∧x<(a0.n:Int)∧∃ad:Addr,a0.a=some ad∧∃x_1:ByteArray,∃x_2:Int,aq S (ad.add (x.toNat*2)) [.string x_1,.int .i64 x_2]∧0≤x∧x<(a1.n:Int)∧∃ad:Addr,a1.a=some ad∧∃x_3:ByteArray,∃x_4:Int,aq S (ad.add (x.toNat*2)) [.string x_3,.int .i64 x_4]∧True∧br (!(decide (x_1=x_3)&&(decide (x_2=x_4)&&true))) (Q (.bool false) V) (inI .i64 (x+1)∧J (x+1) V)) (Q (.bool true) V)) ((0:Int),()) V)
def I8:AC:=(.seq qd (.seq (.seq qd (.cond none (.seq qd .leaf) .leaf)) (.seq (.seq qd (.block none (.loop ⟨([5]++rg 14 12),[(13,.int .i64)],[]⟩ (.seq qd (.seq (.cond none .leaf .leaf) (.seq (.block none (.seq qd (.seq (.reg ⟨(.fl 0 (.fl 1 (.fl 2 (.fl 3 (.fl 4 (.fl 5 (.fl 6 (.fl 7 (.fl 8 .done))))))))),true,[],[],none⟩) (.cond none (.seq qd .leaf) .leaf)))) qd)))))) (.seq qd .leaf))))
theorem Mn {a0:Sl} {a1:Sl} {V:View} {Q:Value→View→Prop} (h:G2 a0 a1 V Q):af Tryz.prog 59 ⟨[(.slice a0.a a0.n a0.c),(.slice a1.a a1.n a1.c)]⟩ V Q:=
 obx false Tryz.f59 I8 (by kernel_rfl) (by kernel_rfl) (by kernel_rfl) (by kernel_rfl) h
def Br (a0:Int) (V:View) (Q:Value→View→Prop):Prop:=
 ∀(b:Nat),br (decide (a0=1)) ((0:Int)≤5∧(5:Int)≤5∧(5:Int)*(↑(TypeInfo.bytes (Tables.types (Program.toTables Tryz.prog))[(3:Nat)]):Int)≤140737488355328∧(5:Int)≤140737488355328∧b7 V (Obj.cells (Array.mk (List.flatten (List.replicate (5:Nat) [.int .i64 0]))) (3:Nat)) fun r V=>Q (.agg ⟨[.int .i64 a0,.int .i64 1,.int .i64 0,.slice (some (Addr.mk r 0 none)) (5:Nat) (5:Nat),.slice none 0 0]⟩) V) (br (decide (a0=2)) (Q (.agg ⟨[.int .i64 a0,.int .i64 1,.int .i64 0,.slice none 0 0,.slice none 0 0]⟩) V) (Q (.agg ⟨[.int .i64 0,.int .i64 0,.int .i64 0,.slice none 0 0,.slice none 0 0]⟩) V))
def I9:AC:=(.seq qd (.seq (.seq qd (.block none (.seq qd (.cond none (.seq qd .leaf) (.seq qd (.cond none (.seq qd .leaf) .leaf)))))) (.seq qd .leaf)))
theorem G3 {a0:Int} {V:View} {Q:Value→View→Prop} (h:Br a0 V Q):af Tryz.prog 61 ⟨[(.int .i64 a0)]⟩ V Q:=
 obx false Tryz.f61 I9 (by kernel_rfl) (by kernel_rfl) (by kernel_rfl) (by kernel_rfl) h
def G4 (a0:Sl) (a1:Int) (V:View) (Q:Value→View→Prop):Prop:=
 aA [] (fun J=>br (decide (a1<0)) False (J V)) fun(V:View)=>af Tryz.prog 94 ⟨[.int .u64 (IntKind.wrap IntKind.u64 (a0.n:Int)),.int .u64 (IntKind.wrap IntKind.u64 a1)]⟩ V fun r V=>∃x x_1:Int,r=Value.tuple ⟨[.int .u64 x,.int .u64 x_1]⟩∧aA [] (fun J=>br (bif decide (0<x)then true else decide (9223372036854775807<x_1)) False (J V)) fun(V:View)=>inI .i64 x_1∧0≤x_1∧x_1≤x_1∧x_1*(↑(TypeInfo.bytes (Tables.types (Program.toTables Tryz.prog))[(3:Nat)]):Int)≤140737488355328∧x_1≤140737488355328∧b7 V (Obj.cells (Array.mk (List.flatten (List.replicate (x_1.toNat) [.int .i64 0]))) (3:Nat)) fun r V=>∃(src:List Value),rowAt V a0.a (min a0.n (x_1.toNat)*1) src∧(List.all src fun(x:Value)=>Value.oneCell' x)=true∧ay V (Addr.mk r 0 none) (List.length src)∧aG [K.int .i64] (fun(x:Int) V J=>br (decide (x<(↑(x_1.toNat):Int))) (True∧0≤x∧x≤(↑(x_1.toNat):Int)∧(↑(x_1.toNat):Int)≤(↑(x_1.toNat):Int)∧(0:Int)≤0∧0≤x∧x≤(↑(x_1.toNat):Int)∧∃(src:List Value),rowAt V (if x_1.toNat=(0:Nat)then some (Addr.mk r 0 none)else some (Addr.add (Addr.mk r 0 none) (0:Nat))) (min (x.toNat-(0:Nat)) (Int.toNat (↑(x_1.toNat):Int)-x.toNat)*1) src∧(List.all src fun(x:Value)=>Value.oneCell' x)=true∧match if x_1.toNat=x.toNat then some (Addr.mk r 0 none)else some (Addr.add (Addr.mk r 0 none) (x.toNat*1))with | none=>src= []∧inI .i64 (x+(↑(min (x.toNat-(0:Nat)) (Int.toNat (↑(x_1.toNat):Int)-x.toNat)):Int))∧J (x+(↑(min (x.toNat-(0:Nat)) (Int.toNat (↑(x_1.toNat):Int)-x.toNat)):Int)) V | some ad=>ay V ad (List.length src)∧inI .i64 (x+(↑(min (x.toNat-(0:Nat)) (Int.toNat (↑(x_1.toNat):Int)-x.toNat)):Int))∧J (x+(↑(min (x.toNat-(0:Nat)) (Int.toNat (↑(x_1.toNat):Int)-x.toNat)):Int)) (V.sets ad src)) (Q (.slice (some (Addr.mk r 0 none)) (x_1.toNat) (x_1.toNat)) V)) ((↑(min a0.n (x_1.toNat)):Int),()) (V.sets (Addr.mk r 0 none) src)
def Ja:AC:=(.seq qd (.seq (.seq qd (.cond (some ⟨[11],[],[]⟩) qd .leaf)) (.seq qd (.seq (.seq qd (.cond (some ⟨[27],[],[]⟩) qd .leaf)) (.seq qd (.seq qd (.seq (.block none (.loop ⟨(rg 34 13),[(8,.int .i64)],[]⟩ (.seq (.seq qd (.cond none .leaf .leaf)) (.block none (.reg ⟨(.fl 0 (.fl 1 (.fl 2 (.fl 3 (.fl 4 (.fl 5 (.fl 6 (.alt 7 false false (.fl 8 (.fl 9 .done)) .no)))))))),false,[],[],none⟩))))) (.seq qd .leaf))))))))
theorem Mo {a0:Sl} {a1:Int} {V:View} {Q:Value→View→Prop} (h:G4 a0 a1 V Q):af Tryz.prog 62 ⟨[(.slice a0.a a0.n a0.c),(.int .i64 a1)]⟩ V Q:=
 obx false Tryz.f62 Ja (by kernel_rfl) (by kernel_rfl) (by kernel_rfl) (by kernel_rfl) h
def G5 (a0:Option Addr) (a1_0:Int) (a1_1:ByteArray) (a1_2:ByteArray) (a1_3:Int) (a1_4:Int) (a1_5:Int) (a1_6:Sl) (V:View) (Q:Value→View→Prop):Prop:=
 ∀(b b:Nat),∃a:Addr,a0=some a∧∃x:Sl,V.cell? (a.add (2:Nat))=some (.slice x.a x.n x.c)∧af Tryz.prog 95 ⟨[.slice x.a x.n x.c]⟩ V fun r V=>∃x:Sl,r= .slice x.a x.n x.c∧br (decide (a1_0=1)) (True∧∃S:View,S.Le V∧∃a:Addr,a0=some a∧∃x:Sl,aq S (a.add (1:Nat)) [.slice x.a x.n x.c]∧af Tryz.prog 96 ⟨[.agg ⟨[.slice x.a x.n x.c]⟩,.string a1_1]⟩ V fun r V=>∃x:Sl,∃x_1:Int,r=Value.tuple ⟨[.agg ⟨[.slice x.a x.n x.c]⟩,.int .i64 x_1]⟩∧Q (Value.tuple ⟨[.agg ⟨[.slice x.a x.n x.c]⟩,.int .i64 x_1]⟩) V) (br (decide (a1_0=2)) (True∧∃S:View,S.Le V∧∃a:Addr,a0=some a∧∃x:Sl,aq S (a.add (1:Nat)) [.slice x.a x.n x.c]∧af Tryz.prog 97 ⟨[.agg ⟨[.slice x.a x.n x.c]⟩,.string a1_1]⟩ V fun r V=>∃x:Sl,∃x_1:Int,r=Value.tuple ⟨[.agg ⟨[.slice x.a x.n x.c]⟩,.int .i64 x_1]⟩∧Q (Value.tuple ⟨[.agg ⟨[.slice x.a x.n x.c]⟩,.int .i64 x_1]⟩) V) (br (decide (a1_0=3)) (True∧∃S:View,S.Le V∧∃a:Addr,a0=some a∧∃x_1:Sl,aq S (a.add (1:Nat)) [.slice x_1.a x_1.n x_1.c]∧af Tryz.prog 98 ⟨[.agg ⟨[.slice x_1.a x_1.n x_1.c]⟩,.string a1_1,.slice x.a x.n x.c]⟩ V fun r V=>∃x:Sl,∃x_2:Int,r=Value.tuple ⟨[.agg ⟨[.slice x.a x.n x.c]⟩,.int .i64 x_2]⟩∧Q (Value.tuple ⟨[.agg ⟨[.slice x.a x.n x.c]⟩,.int .i64 x_2]⟩) V) (br (decide (a1_0=4)) (True∧∃S:View,S.Le V∧∃a:Addr,a0=some a∧∃x:Sl,aq S (a.add (1:Nat)) [.slice x.a x.n x.c]∧af Tryz.prog 99 ⟨[.agg ⟨[.slice x.a x.n x.c]⟩,.string a1_1]⟩ V fun r V=>∃x:Sl,∃x_1:Int,r=Value.tuple ⟨[.agg ⟨[.slice x.a x.n x.c]⟩,.int .i64 x_1]⟩∧Q (Value.tuple ⟨[.agg ⟨[.slice x.a x.n x.c]⟩,.int .i64 x_1]⟩) V) (br (decide (a1_0=5)) (True∧∃S:View,S.Le V∧∃a:Addr,a0=some a∧∃x_1:Sl,aq S (a.add (1:Nat)) [.slice x_1.a x_1.n x_1.c]∧af Tryz.prog 100 ⟨[.agg ⟨[.slice x_1.a x_1.n x_1.c]⟩,.string a1_1,.string a1_2,.slice x.a x.n x.c]⟩ V fun r V=>∃x:Sl,∃x_2:Int,r=Value.tuple ⟨[.agg ⟨[.slice x.a x.n x.c]⟩,.int .i64 x_2]⟩∧Q (Value.tuple ⟨[.agg ⟨[.slice x.a x.n x.c]⟩,.int .i64 x_2]⟩) V) (True∧∃S:View,S.Le V∧∃a:Addr,a0=some a∧∃x:Sl,aq S (a.add (1:Nat)) [.slice x.a x.n x.c]∧af Tryz.prog 101 ⟨[.agg ⟨[.slice x.a x.n x.c]⟩,.string a1_1,.string a1_2]⟩ V fun r V=>∃x:Sl,∃x_1:Int,r=Value.tuple ⟨[.agg ⟨[.slice x.a x.n x.c]⟩,.int .i64 x_1]⟩∧Q (Value.tuple ⟨[.agg ⟨[.slice x.a x.n x.c]⟩,.int .i64 x_1]⟩) V)))))
def Jb:AC:=(.seq qd (.seq qd (.seq (.seq qd (.block none (.seq qd (.cond none (.seq (.reg ⟨(.fl 0 (.fl 1 (.fl 2 (.fl 3 (.fl 4 (.fl 5 (.alt 6 false false (.fl 7 (.fl 8 (.alt 9 false false (.fl 10 .done) .no))) .no))))))),true,[],[],none⟩) .leaf) (.seq qd (.cond none (.seq (.reg ⟨(.fl 0 (.fl 1 (.fl 2 (.fl 3 (.fl 4 (.fl 5 (.alt 6 false false (.fl 7 (.fl 8 (.alt 9 false false (.fl 10 .done) .no))) .no))))))),true,[],[],none⟩) .leaf) (.seq qd (.cond none (.seq (.reg ⟨(.fl 0 (.fl 1 (.fl 2 (.fl 3 (.fl 4 (.fl 5 (.fl 6 (.alt 7 false false (.fl 8 (.fl 9 (.alt 10 false false (.fl 11 .done) .no))) .no)))))))),true,[],[],none⟩) .leaf) (.seq qd (.cond none (.seq (.reg ⟨(.fl 0 (.fl 1 (.fl 2 (.fl 3 (.fl 4 (.fl 5 (.alt 6 false false (.fl 7 (.fl 8 (.alt 9 false false (.fl 10 .done) .no))) .no))))))),true,[],[],none⟩) .leaf) (.seq qd (.cond none (.seq (.reg ⟨(.fl 0 (.fl 1 (.fl 2 (.fl 3 (.fl 4 (.fl 5 (.fl 6 (.fl 7 (.fl 8 (.alt 9 false false (.fl 10 (.fl 11 (.alt 12 false false (.fl 13 .done) .no))) .no)))))))))),true,[],[],none⟩) .leaf) .leaf)))))))))))) (.seq (.reg ⟨(.fl 0 (.fl 1 (.fl 2 (.fl 3 (.fl 4 (.fl 5 (.fl 6 (.fl 7 (.alt 8 false false (.fl 9 (.fl 10 (.alt 11 false false (.fl 12 .done) .no))) .no))))))))),true,[],[],none⟩) .leaf))))
theorem Mp {a0:Option Addr} {a1_0:Int} {a1_1:ByteArray} {a1_2:ByteArray} {a1_3:Int} {a1_4:Int} {a1_5:Int} {a1_6:Sl} {V:View} {Q:Value→View→Prop} (h:G5 a0 a1_0 a1_1 a1_2 a1_3 a1_4 a1_5 a1_6 V Q):af Tryz.prog 63 ⟨[(.pointer a0),(.agg ⟨[(.int .i64 a1_0),(.string a1_1),(.string a1_2),(.int .i64 a1_3),(.int .i64 a1_4),(.int .i64 a1_5),(.slice a1_6.a a1_6.n a1_6.c)]⟩)]⟩ V Q:=
 obx false Tryz.f63 Jb (by kernel_rfl) (by kernel_rfl) (by kernel_rfl) (by kernel_rfl) h
def G6 (a0:Option Addr) (a1_0:Int) (a1_1:ByteArray) (a1_2:ByteArray) (a1_3:Int) (a1_4:Int) (a1_5:Int) (a1_6:Sl) (a2:Option Addr) (V:View) (Q:Value→View→Prop):Prop:=
 ∀(b:Nat),True∧∃S:View,S.Le V∧∃a:Addr,a0=some a∧∃x:Sl,aq S (a.add (1:Nat)) [.slice x.a x.n x.c]∧af Tryz.prog 102 ⟨[.agg ⟨[.slice x.a x.n x.c]⟩,.string a1_1]⟩ V fun r V=>∃x x_1:Int,r=Value.tuple ⟨[.int .i64 x,.int .i64 x_1]⟩∧br (!decide (x_1=0)) (Q (.int .i64 x_1) V) (∃a:Addr,a0=some a∧∃x_2:Sl,V.cell? (Addr.add (a.add (1:Nat)) (0:Nat))=some (.slice x_2.a x_2.n x_2.c)∧0≤x∧x<(x_2.n:Int)∧∃ad:Addr,x_2.a=some ad∧∃x_3 x_4 x_5:Int,∃x_6 x_7:Sl,aq V (ad.add (x.toNat*5)) [.int .i64 x_3,.int .i64 x_4,.int .i64 x_5,.slice x_6.a x_6.n x_6.c,.slice x_7.a x_7.n x_7.c]∧∀(b:Nat),aA [K.int .i64] (fun J=>br (decide (a1_0=7)) (∃a:Addr,a2=some a∧ay V (a.add (3:Nat)) (Nat.succ (Nat.succ (Nat.succ (Nat.succ (nat_lit 3)))))∧J x_1 (V.sets (a.add (3:Nat)) [.int .i64 0,.int .i64 0,.int .i64 x_5,.int .i64 x_3,.int .i64 x_4,.slice none 0 0,.slice none 0 0])) (br (bif decide (a1_0=8)then !decide (x_3=2)else false) (Q (.int .i64 11) V) (aA [K.int .i64] (fun J=>br (decide (a1_0=8)) (af Tryz.prog 103 ⟨[.slice x_7.a x_7.n x_7.c]⟩ V fun r V=>∃x:Sl,r= .slice x.a x.n x.c∧∃a:Addr,a2=some a∧ay V (Addr.add (a.add (3:Nat)) (6:Nat)) (nat_lit 1)∧J x_1 (V.sets (Addr.add (a.add (3:Nat)) (6:Nat)) [.slice x.a x.n x.c])) (br (decide (x_3=2)) (Q (.int .i64 10) V) (∃a:Addr,a0=some a∧∃x_8:Sl,V.cell? (a.add (2:Nat))=some (.slice x_8.a x_8.n x_8.c)∧af Tryz.prog 104 ⟨[.slice x_8.a x_8.n x_8.c,.int .i64 x]⟩ V fun r V=>∃x:Sl,∃x_9 x_10:Int,r=Value.tuple ⟨[.slice x.a x.n x.c,.int .i64 x_9,.int .i64 x_10]⟩∧∃a:Addr,a2=some a∧ay V (a.add (1:Nat)) (nat_lit 1)∧∃a_1:Addr,a2=some a_1∧ay (V.sets (a.add (1:Nat)) [.slice x.a x.n x.c]) (Addr.add (a_1.add (3:Nat)) (1:Nat)) (nat_lit 1)∧J x_10 (View.sets (V.sets (a.add (1:Nat)) [.slice x.a x.n x.c]) (Addr.add (a_1.add (3:Nat)) (1:Nat)) [.int .i64 x_9])))) fun(x:Int) V=>J x V))) fun(x:Int) V=>Q (.int .i64 x) V)
def Jc:AC:=(.seq qd (.seq (.reg ⟨(.fl 0 (.fl 1 (.fl 2 (.fl 3 (.fl 4 (.fl 5 (.alt 6 false false (.fl 7 (.fl 8 (.fl 9 (.fl 10 (.fl 11 .done))))) .no))))))),true,[],[],none⟩) (.seq (.seq qd (.cond none (.seq qd .leaf) .leaf)) (.seq qd (.seq (.block none (.seq qd (.cond (some ⟨(rg 31 17++rg 52 34),[(8,.int .i64)],[]⟩) qd (.seq qd (.cond none (.seq qd .leaf) (.seq qd (.cond (some ⟨(rg 31 17++rg 75 11),[(8,.int .i64)],[]⟩) qd (.seq qd (.cond none (.seq qd .leaf) qd))))))))) (.seq qd .leaf))))))
theorem Mq {a0:Option Addr} {a1_0:Int} {a1_1:ByteArray} {a1_2:ByteArray} {a1_3:Int} {a1_4:Int} {a1_5:Int} {a1_6:Sl} {a2:Option Addr} {V:View} {Q:Value→View→Prop} (h:G6 a0 a1_0 a1_1 a1_2 a1_3 a1_4 a1_5 a1_6 a2 V Q):af Tryz.prog 64 ⟨[(.pointer a0),(.agg ⟨[(.int .i64 a1_0),(.string a1_1),(.string a1_2),(.int .i64 a1_3),(.int .i64 a1_4),(.int .i64 a1_5),(.slice a1_6.a a1_6.n a1_6.c)]⟩),(.pointer a2)]⟩ V Q:=
 obx false Tryz.f64 Jc (by kernel_rfl) (by kernel_rfl) (by kernel_rfl) (by kernel_rfl) h
def G7 (a0:Option Addr) (a1_0:Int) (a1_1:ByteArray) (a1_2:ByteArray) (a1_3:Int) (a1_4:Int) (a1_5:Int) (a1_6:Sl) (a2:Option Addr) (V:View) (Q:Value→View→Prop):Prop:=
 ∀(b:Nat),True∧∃S:View,S.Le V∧∃a:Addr,a0=some a∧∃x:Sl,S.cell? (a.add (2:Nat))=some (.slice x.a x.n x.c)∧af Tryz.prog 105 ⟨[.slice x.a x.n x.c,.int .i64 a1_3]⟩ V fun r V=>∃x:Sl,∃x_1 x_2:Int,r=Value.tuple ⟨[.slice x.a x.n x.c,.int .i64 x_1,.int .i64 x_2]⟩∧br (!decide (x_2=0)) (Q (.int .i64 x_2) V) (∃a:Addr,a2=some a∧ay V (a.add (1:Nat)) (nat_lit 1)∧aA [K.bool] (fun J=>∃a_1:Addr,a0=some a_1∧∃x_3:Sl,View.cell? (V.sets (a.add (1:Nat)) [.slice x.a x.n x.c]) (Addr.add (a_1.add (1:Nat)) (0:Nat))=some (.slice x_3.a x_3.n x_3.c)∧0≤x_1∧x_1<(x_3.n:Int)∧∃ad:Addr,x_3.a=some ad∧∃x_4:Int,View.cell? (V.sets (a.add (1:Nat)) [.slice x.a x.n x.c]) (Addr.add (ad.add (x_1.toNat*5)) (1:Nat))=some (.int .i64 x_4)∧br (decide (x_4=0)) (af Tryz.prog 95 ⟨[.slice x.a x.n x.c]⟩ (V.sets (a.add (1:Nat)) [.slice x.a x.n x.c]) fun r V=>∃x:Sl,r= .slice x.a x.n x.c∧0≤x_1∧x_1<(x.n:Int)∧∃ad:Addr,x.a=some ad∧∃x:Bool,V.cell? (ad.add (x_1.toNat*1))=some (.bool x)∧J (!x) V) (J false (V.sets (a.add (1:Nat)) [.slice x.a x.n x.c]))) fun x V=>aA [K.int .i64] (fun J=>br x (∃a:Addr,a0=some a∧∃x:Sl,aq V (a.add (1:Nat)) [.slice x.a x.n x.c]∧af Tryz.prog 47 ⟨[.agg ⟨[.slice x.a x.n x.c]⟩,.int .i64 x_1]⟩ V fun r V=>∃x:Sl,∃x_3:Int,r=Value.tuple ⟨[.agg ⟨[.slice x.a x.n x.c]⟩,.int .i64 x_3]⟩∧∃a:Addr,a2=some a∧ay V (a.add (0:Nat)) (nat_lit 1)∧J x_3 (V.sets (a.add (0:Nat)) [.slice x.a x.n x.c])) (J x_2 V)) fun(x:Int) V=>Q (.int .i64 x) V)
def Jd:AC:=(.seq qd (.seq (.reg ⟨(.fl 0 (.fl 1 (.fl 2 (.fl 3 (.fl 4 (.fl 5 (.alt 6 false false (.fl 7 (.fl 8 (.fl 9 (.fl 10 (.fl 11 (.fl 12 (.fl 13 .done))))))) .no))))))),true,[],[],none⟩) (.seq (.seq qd (.cond none (.seq qd .leaf) .leaf)) (.seq qd (.seq (.seq (.reg ⟨.done,false,[],[],(some ⟨(rg 28 17),[(45,.bool)],[]⟩)⟩) (.cond (some ⟨(rg 46 12),[(9,.int .i64)],[]⟩) qd .leaf)) (.seq qd .leaf))))))
theorem Mr {a0:Option Addr} {a1_0:Int} {a1_1:ByteArray} {a1_2:ByteArray} {a1_3:Int} {a1_4:Int} {a1_5:Int} {a1_6:Sl} {a2:Option Addr} {V:View} {Q:Value→View→Prop} (h:G7 a0 a1_0 a1_1 a1_2 a1_3 a1_4 a1_5 a1_6 a2 V Q):af Tryz.prog 65 ⟨[(.pointer a0),(.agg ⟨[(.int .i64 a1_0),(.string a1_1),(.string a1_2),(.int .i64 a1_3),(.int .i64 a1_4),(.int .i64 a1_5),(.slice a1_6.a a1_6.n a1_6.c)]⟩),(.pointer a2)]⟩ V Q:=
 obx false Tryz.f65 Jd (by kernel_rfl) (by kernel_rfl) (by kernel_rfl) (by kernel_rfl) h
def G8 (a0:Option Addr) (a1_0:Int) (a1_1:ByteArray) (a1_2:ByteArray) (a1_3:Int) (a1_4:Int) (a1_5:Int) (a1_6:Sl) (a2:Option Addr) (V:View) (Q:Value→View→Prop):Prop:=
 ∀(b:Nat),True∧∃S:View,S.Le V∧∃a:Addr,a0=some a∧∃x:Sl,S.cell? (a.add (2:Nat))=some (.slice x.a x.n x.c)∧af Tryz.prog 106 ⟨[.slice x.a x.n x.c,.int .i64 a1_3]⟩ V fun r V=>∃x x_1:Int,r=Value.tuple ⟨[.int .i64 x,.int .i64 x_1]⟩∧br (!decide (x_1=0)) (Q (.int .i64 x_1) V) (aA [K.int .i64] (fun J=>br (decide (a1_0=12)) (∃a:Addr,a2=some a∧ay V (Addr.add (a.add (3:Nat)) (2:Nat)) (nat_lit 1)∧True∧∃S:View,S.Le (V.sets (Addr.add (a.add (3:Nat)) (2:Nat)) [.int .i64 (a1_6.n:Int)])∧∃a_1:Addr,a0=some a_1∧∃x_2:Sl,aq S (a_1.add (1:Nat)) [.slice x_2.a x_2.n x_2.c]∧∃a_2:Addr,a0=some a_2∧∃x_3:Int,S.cell? (a_2.add (0:Nat))=some (.int .i64 x_3)∧af Tryz.prog 107 ⟨[.agg ⟨[.slice x_2.a x_2.n x_2.c]⟩,.int .i64 x_3,.int .i64 x,.int .i64 a1_4,.slice a1_6.a a1_6.n a1_6.c]⟩ (V.sets (Addr.add (a.add (3:Nat)) (2:Nat)) [.int .i64 (a1_6.n:Int)]) fun r V=>∃x x_4:Sl,∃x_5:Int,r=Value.tuple ⟨[.agg ⟨[.slice x.a x.n x.c]⟩,.slice x_4.a x_4.n x_4.c,.int .i64 x_5]⟩∧∃a:Addr,a2=some a∧ay V (a.add (0:Nat)) (nat_lit 1)∧∃a_3:Addr,a2=some a_3∧ay (V.sets (a.add (0:Nat)) [.slice x.a x.n x.c]) (a_3.add (2:Nat)) (nat_lit 1)∧J x_5 (View.sets (V.sets (a.add (0:Nat)) [.slice x.a x.n x.c]) (a_3.add (2:Nat)) [.slice x_4.a x_4.n x_4.c])) (aA [K.int .i64] (fun J=>br (decide (a1_0=13)) (True∧∃S:View,S.Le V∧∃a:Addr,a0=some a∧∃x_2:Sl,aq S (a.add (1:Nat)) [.slice x_2.a x_2.n x_2.c]∧af Tryz.prog 108 ⟨[.agg ⟨[.slice x_2.a x_2.n x_2.c]⟩,.int .i64 x,.int .i64 a1_4]⟩ V fun r V=>∃x x_3:Sl,∃x_4:Int,r=Value.tuple ⟨[.agg ⟨[.slice x.a x.n x.c]⟩,.slice x_3.a x_3.n x_3.c,.int .i64 x_4]⟩∧∃a:Addr,a2=some a∧ay V (a.add (0:Nat)) (nat_lit 1)∧∃a_1:Addr,a2=some a_1∧ay (V.sets (a.add (0:Nat)) [.slice x.a x.n x.c]) (a_1.add (2:Nat)) (nat_lit 1)∧J x_4 (View.sets (V.sets (a.add (0:Nat)) [.slice x.a x.n x.c]) (a_1.add (2:Nat)) [.slice x_3.a x_3.n x_3.c])) (True∧∃S:View,S.Le V∧∃a:Addr,a0=some a∧∃x_2:Sl,aq S (a.add (1:Nat)) [.slice x_2.a x_2.n x_2.c]∧af Tryz.prog 109 ⟨[.agg ⟨[.slice x_2.a x_2.n x_2.c]⟩,.int .i64 x,.int .i64 a1_4,.int .i64 a1_5]⟩ V fun r V=>∃x_3:Sl,∃x_4:Int,r=Value.tuple ⟨[.slice x_3.a x_3.n x_3.c,.int .i64 x_4]⟩∧aG [K.int .i64] (fun(x_5:Int) V J_1=>br (decide (x_5<(x_3.n:Int))) (0≤x_5∧x_5<(x_3.n:Int)∧∃ad:Addr,x_3.a=some ad∧∃x_6 x_7 x_8:Int,aq V (ad.add (x_5.toNat*3)) [.int .i64 x_6,.int .i64 x_7,.int .i64 x_8]∧∀(b:Nat),True∧∃S:View,S.Le V∧∃a:Addr,a2=some a∧∃x_9:Sl,S.cell? (Addr.add (a.add (3:Nat)) (5:Nat))=some (.slice x_9.a x_9.n x_9.c)∧∃a:Addr,a0=some a∧∃x_10:Sl,S.cell? (Addr.add (a.add (1:Nat)) (0:Nat))=some (.slice x_10.a x_10.n x_10.c)∧0≤x∧x<(x_10.n:Int)∧∃ad:Addr,x_10.a=some ad∧∃x_11:Sl,S.cell? (Addr.add (ad.add (x.toNat*5)) (3:Nat))=some (.slice x_11.a x_11.n x_11.c)∧0≤x_6∧x_6<(x_11.n:Int)∧∃ad:Addr,x_11.a=some ad∧∃x:Int,S.cell? (ad.add (x_6.toNat*1))=some (.int .i64 x)∧inI .i64 (x_7+x_8)∧af Tryz.prog 36 ⟨[.pointer a0,.int .i64 x]⟩ V fun r V=>∃x:Sl,r= .slice x.a x.n x.c∧S.Le V∧0≤x_7∧x_7≤x_7+x_8∧x_7+x_8≤(↑x.c:Int)∧apV V (5:Nat) (1:Nat) (1:Nat) [.int .u8 0] (Sl.mk x_9.a x_9.n x_9.c) (.slice (if x.c=x_7.toNat then x.a else Option.map (fun(x:Addr)=>x.add (x_7.toNat*1)) x.a) (Int.toNat (x_7+x_8)-x_7.toNat) (x.c-x_7.toNat)) fun s V=>∃a:Addr,a2=some a∧ay V (Addr.add (a.add (3:Nat)) (5:Nat)) (nat_lit 1)∧inI .i64 (x_5+1)∧J_1 (x_5+1) (V.sets (Addr.add (a.add (3:Nat)) (5:Nat)) [.slice s.a s.n s.c])) (∃a:Addr,a2=some a∧∃x:Sl,V.cell? (Addr.add (a.add (3:Nat)) (5:Nat))=some (.slice x.a x.n x.c)∧∃a:Addr,a2=some a∧ay V (Addr.add (a.add (3:Nat)) (2:Nat)) (nat_lit 1)∧J x_4 (V.sets (Addr.add (a.add (3:Nat)) (2:Nat)) [.int .i64 (x.n:Int)]))) ((0:Int),()) V)) fun(x:Int) V=>J x V)) fun(x:Int) V=>Q (.int .i64 x) V)
def Je:AC:=(.seq qd (.seq (.reg ⟨(.fl 0 (.fl 1 (.fl 2 (.fl 3 (.fl 4 (.fl 5 (.alt 6 false false (.fl 7 (.fl 8 (.fl 9 (.fl 10 (.fl 11 .done))))) .no))))))),true,[],[],none⟩) (.seq (.seq qd (.cond none (.seq qd .leaf) .leaf)) (.seq (.seq qd (.block none (.seq qd (.cond (some ⟨([9,11]++rg 27 63++rg 92 51),[(8,.int .i64)],[]⟩) (.seq qd (.reg ⟨(.fl 0 (.fl 1 (.fl 2 (.fl 3 (.fl 4 (.fl 5 (.fl 6 (.fl 7 (.fl 8 (.fl 9 (.fl 10 (.fl 11 (.fl 12 (.fl 13 (.fl 14 (.alt 15 false false (.fl 16 (.fl 17 (.fl 18 (.fl 19 (.fl 20 (.fl 21 (.alt 22 false false (.fl 23 (.fl 24 (.alt 25 false false (.fl 26 .done) .no))) .no))))))) .no)))))))))))))))),true,[],[],none⟩)) (.seq qd (.cond (some ⟨([9,11]++rg 27 63++rg 125 18),[(8,.int .i64)],[]⟩) (.reg ⟨(.fl 0 (.fl 1 (.fl 2 (.fl 3 (.fl 4 (.fl 5 (.fl 6 (.fl 7 (.fl 8 (.alt 9 false false (.fl 10 (.fl 11 (.fl 12 (.fl 13 (.fl 14 (.fl 15 (.alt 16 false false (.fl 17 (.fl 18 (.alt 19 false false (.fl 20 .done) .no))) .no))))))) .no)))))))))),true,[],[],none⟩) (.seq qd (.seq (.reg ⟨(.fl 0 (.fl 1 (.fl 2 (.fl 3 (.fl 4 (.fl 5 (.fl 6 (.fl 7 (.fl 8 (.alt 9 false false (.fl 10 (.fl 11 (.fl 12 (.fl 13 (.fl 14 .done))))) .no)))))))))),true,[],[],none⟩) (.seq (.seq qd (.block none (.loop ⟨([11]++rg 43 37),[(42,.int .i64)],[]⟩ (.seq qd (.seq (.cond none .leaf .leaf) (.seq (.block none (.seq qd (.reg ⟨(.fl 0 (.fl 1 (.fl 2 (.fl 3 (.fl 4 (.fl 5 (.fl 6 (.fl 7 (.fl 8 (.fl 9 (.fl 10 (.fl 11 (.fl 12 (.fl 13 (.fl 14 (.fl 15 (.fl 16 (.fl 17 (.fl 18 (.fl 19 (.fl 21 (.fl 22 (.fl 23 (.fl 24 (.fl 25 (.fl 26 (.fl 27 (.alt 20 true false (.fl 28 (.alt 29 false false (.fl 30 (.fl 31 (.fl 32 (.alt 33 false false .done .no)))) .no)) .no)))))))))))))))))))))))))))),true,[],[],none⟩))) qd)))))) qd))))))))) (.seq qd .leaf)))))
theorem Ms {a0:Option Addr} {a1_0:Int} {a1_1:ByteArray} {a1_2:ByteArray} {a1_3:Int} {a1_4:Int} {a1_5:Int} {a1_6:Sl} {a2:Option Addr} {V:View} {Q:Value→View→Prop} (h:G8 a0 a1_0 a1_1 a1_2 a1_3 a1_4 a1_5 a1_6 a2 V Q):af Tryz.prog 66 ⟨[(.pointer a0),(.agg ⟨[(.int .i64 a1_0),(.string a1_1),(.string a1_2),(.int .i64 a1_3),(.int .i64 a1_4),(.int .i64 a1_5),(.slice a1_6.a a1_6.n a1_6.c)]⟩),(.pointer a2)]⟩ V Q:=
 obx false Tryz.f66 Je (by kernel_rfl) (by kernel_rfl) (by kernel_rfl) (by kernel_rfl) h
def G9 (a0_0:Sl) (a1:Int) (V:View) (Q:Value→View→Prop):Prop:=
 ∀(b:Nat),af Tryz.prog 110 ⟨[.agg ⟨[.slice a0_0.a a0_0.n a0_0.c]⟩]⟩ V fun r V=>∃x:Int,r= .int .i64 x∧af Tryz.prog 111 ⟨[.agg ⟨[.slice a0_0.a a0_0.n a0_0.c]⟩]⟩ V fun r V=>∃x_1:Bool,r= .bool x_1∧br (bif !x_1 then decide (x<a1)else false) (inI .i64 (a1-x)∧Q (.int .i64 (a1-x)) V) (Q (.int .i64 0) V)
def Jf:AC:=(.seq qd (.seq (.seq qd (.seq qd (.cond none (.seq qd .leaf) .leaf))) (.seq qd .leaf)))
theorem Mt {a0_0:Sl} {a1:Int} {V:View} {Q:Value→View→Prop} (h:G9 a0_0 a1 V Q):af Tryz.prog 67 ⟨[(.agg ⟨[(.slice a0_0.a a0_0.n a0_0.c)]⟩),(.int .i64 a1)]⟩ V Q:=
 obx false Tryz.f67 Jf (by kernel_rfl) (by kernel_rfl) (by kernel_rfl) (by kernel_rfl) h
def He (a0_0:Sl) (V:View) (Q:Value→View→Prop):Prop:=
 ∀(b:Nat),af Tryz.prog 111 ⟨[.agg ⟨[.slice a0_0.a a0_0.n a0_0.c]⟩]⟩ V fun r V=>∃x:Bool,r= .bool x∧br x (Q (.int .i64 0) V) (aG [K.int .i64,K.int .i64] (fun(x x_1:Int) (V:View) (J:c7 [K.int .i64,K.int .i64])=>br (decide (x_1<(a0_0.n:Int))) (0≤x_1∧x_1<(a0_0.n:Int)∧∃ad:Addr,a0_0.a=some ad∧∃x_2 x_3 x_4:Int,∃x_5 x_6:Sl,aq V (ad.add (x_1.toNat*5)) [.int .i64 x_2,.int .i64 x_3,.int .i64 x_4,.slice x_5.a x_5.n x_5.c,.slice x_6.a x_6.n x_6.c]∧∀(b:Nat),aA [K.int .i64] (fun J=>br (decide (x_2=0)) (inI .i64 (x+1)∧J (x+1) V) (J x V)) fun(x:Int) V=>inI .i64 (x_1+1)∧J x (x_1+1) V) (Q (.int .i64 x) V)) ((0:Int),(0:Int),()) V)
def Jg:AC:=(.seq qd (.seq (.seq qd (.cond none (.seq qd .leaf) .leaf)) (.seq qd (.seq (.seq qd (.block none (.loop ⟨([5]++rg 12 9),[(3,.int .i64),(11,.int .i64)],[]⟩ (.seq qd (.seq (.cond none .leaf .leaf) (.seq (.block none (.seq qd (.seq qd (.cond (some ⟨[18,19],[(3,.int .i64)],[]⟩) qd .leaf)))) qd)))))) (.seq qd .leaf)))))
theorem Mu {a0_0:Sl} {V:View} {Q:Value→View→Prop} (h:He a0_0 V Q):af Tryz.prog 68 ⟨[(.agg ⟨[(.slice a0_0.a a0_0.n a0_0.c)]⟩)]⟩ V Q:=
 obx false Tryz.f68 Jg (by kernel_rfl) (by kernel_rfl) (by kernel_rfl) (by kernel_rfl) h
def Hf (a0_0:Sl) (V:View) (Q:Value→View→Prop):Prop:=
 ∀(b:Nat),aA [K.bool] (fun J=>br (!decide ((a0_0.n:Int)=12)) (J true V) (af Tryz.prog 112 ⟨[.slice a0_0.a a0_0.n a0_0.c,Value.func (Fn.func (113:Nat)) ⟨[]⟩ ⟨[]⟩]⟩ V fun r V=>∃x:Bool,r= .bool x∧br x (J true V) ((0:Int)≤0∧0<(a0_0.n:Int)∧∃ad:Addr,a0_0.a=some ad∧∃x:Int,V.cell? (Addr.add (ad.add (0:Nat)) (0:Nat))=some (.int .i64 x)∧J (!decide (x=2)) V))) fun x V=>br x (Q (.bool false) V) (True∧∃S:View,S.Le V∧af Tryz.prog 115 ⟨[.agg ⟨[.slice a0_0.a a0_0.n a0_0.c]⟩]⟩ V fun r V=>∃x:Sl,r= .slice x.a x.n x.c∧S.Le V∧af Tryz.prog 116 ⟨[.agg ⟨[.slice a0_0.a a0_0.n a0_0.c]⟩,.int .i64 0]⟩ V fun r V=>∃x_1:Sl,r= .slice x_1.a x_1.n x_1.c∧aG [K.int .i64] (fun(x_2:Int) V J=>br (decide (x_2<(a0_0.n:Int))) (0≤x_2∧x_2<(a0_0.n:Int)∧∃ad:Addr,a0_0.a=some ad∧∃x_3 x_4 x_5:Int,∃x_6 x_7:Sl,aq V (ad.add (x_2.toNat*5)) [.int .i64 x_3,.int .i64 x_4,.int .i64 x_5,.slice x_6.a x_6.n x_6.c,.slice x_7.a x_7.n x_7.c]∧∀(b:Nat),True∧∃S:View,S.Le V∧0≤x_2∧x_2<(x.n:Int)∧∃ad:Addr,x.a=some ad∧∃x:Int,S.cell? (ad.add (x_2.toNat*1))=some (.int .i64 x)∧0≤x_2∧x_2<(x_1.n:Int)∧∃ad:Addr,x_1.a=some ad∧∃x_8:Bool,S.cell? (ad.add (x_2.toNat*1))=some (.bool x_8)∧af Tryz.prog 117 ⟨[.agg ⟨[.int .i64 x_3,.int .i64 x_4,.int .i64 x_5,.slice x_6.a x_6.n x_6.c,.slice x_7.a x_7.n x_7.c]⟩,.int .i64 x_2,.int .i64 x,.bool x_8]⟩ V fun r V=>∃x:Bool,r= .bool x∧br (!x) (Q (.bool false) V) (inI .i64 (x_2+1)∧J (x_2+1) V)) (af Tryz.prog 118 ⟨[.agg ⟨[.slice a0_0.a a0_0.n a0_0.c]⟩]⟩ V fun r V=>∃x:Bool,r= .bool x∧Q (.bool x) V)) ((0:Int),()) V)
def Jh:AC:=(.seq qd (.seq (.seq (.reg ⟨.done,false,[],[],(some ⟨(rg 7 16),[(23,.bool)],[]⟩)⟩) (.cond none (.seq qd .leaf) .leaf)) (.seq (.reg ⟨(.fl 0 (.fl 2 (.alt 1 true false (.alt 3 false false (.fl 4 (.fl 5 .done)) .no) .no))),true,[],[],none⟩) (.seq (.seq qd (.block none (.loop ⟨([5,6]++rg 32 17),[(31,.int .i64)],[]⟩ (.seq qd (.seq (.cond none .leaf .leaf) (.seq (.block none (.seq qd (.seq (.reg ⟨(.fl 0 (.fl 1 (.fl 2 (.fl 3 (.fl 4 (.fl 5 (.fl 6 (.fl 7 (.fl 8 (.fl 9 (.alt 10 false false (.fl 11 .done) .no))))))))))),true,[],[],none⟩) (.cond none (.seq qd .leaf) .leaf)))) qd)))))) (.seq qd .leaf)))))
theorem Mw {a0_0:Sl} {V:View} {Q:Value→View→Prop} (h:Hf a0_0 V Q):af Tryz.prog 69 ⟨[(.agg ⟨[(.slice a0_0.a a0_0.n a0_0.c)]⟩)]⟩ V Q:=
 obx false Tryz.f69 Jh (by kernel_rfl) (by kernel_rfl) (by kernel_rfl) (by kernel_rfl) h
def Hg (a0_0:Sl) (a1:Int) (V:View) (Q:Value→View→Prop):Prop:=
 ∀(b:Nat),aA [K.bool] (fun J=>af Tryz.prog 69 ⟨[.agg ⟨[.slice a0_0.a a0_0.n a0_0.c]⟩]⟩ V fun r V=>∃x:Bool,r= .bool x∧br (bif bif x then decide (0≤a1)else false then decide (a1<(a0_0.n:Int))else false) (0≤a1∧a1<(a0_0.n:Int)∧∃ad:Addr,a0_0.a=some ad∧∃x:Int,V.cell? (Addr.add (ad.add (a1.toNat*5)) (0:Nat))=some (.int .i64 x)∧J (decide (x=1)) V) (J false V)) fun x V=>Q (.bool x) V
def Ji:AC:=(.seq qd (.seq (.reg ⟨.done,false,[],[],(some ⟨(rg 5 22),[(4,.bool)],[]⟩)⟩) .leaf))
theorem Mx {a0_0:Sl} {a1:Int} {V:View} {Q:Value→View→Prop} (h:Hg a0_0 a1 V Q):af Tryz.prog 70 ⟨[(.agg ⟨[(.slice a0_0.a a0_0.n a0_0.c)]⟩),(.int .i64 a1)]⟩ V Q:=
 obx false Tryz.f70 Ji (by kernel_rfl) (by kernel_rfl) (by kernel_rfl) (by kernel_rfl) h
def Bs (a0_0:Int) (a0_1:Int) (a0_2:Int) (a0_3:Sl) (a0_4:Sl) (V:View) (Q:Value→View→Prop):Prop:=
 ∀(b b:Nat),True∧∃S:View,S.Le V∧af Tryz.prog 56 ⟨[.slice a0_3.a a0_3.n a0_3.c]⟩ V fun r V=>∃x:Sl,r= .slice x.a x.n x.c∧S.Le V∧af Tryz.prog 119 ⟨[.slice a0_4.a a0_4.n a0_4.c]⟩ V fun r V=>∃x_1:Sl,r= .slice x_1.a x_1.n x_1.c∧Q (.agg ⟨[.int .i64 a0_0,.int .i64 a0_1,.int .i64 a0_2,.slice x.a x.n x.c,.slice x_1.a x_1.n x_1.c]⟩) V
def Jj:AC:=(.seq qd (.seq (.reg ⟨(.fl 0 (.fl 1 (.fl 3 (.fl 4 (.alt 2 true false (.fl 6 (.alt 5 false false (.alt 7 false false (.fl 8 (.alt 9 false false .done .no)) .no) .no)) .no))))),true,[],[],none⟩) (.seq qd .leaf)))
theorem Hh {a0_0:Int} {a0_1:Int} {a0_2:Int} {a0_3:Sl} {a0_4:Sl} {V:View} {Q:Value→View→Prop} (h:Bs a0_0 a0_1 a0_2 a0_3 a0_4 V Q):af Tryz.prog 71 ⟨[(.agg ⟨[(.int .i64 a0_0),(.int .i64 a0_1),(.int .i64 a0_2),(.slice a0_3.a a0_3.n a0_3.c),(.slice a0_4.a a0_4.n a0_4.c)]⟩)]⟩ V Q:=
 obx false Tryz.f71 Jj (by kernel_rfl) (by kernel_rfl) (by kernel_rfl) (by kernel_rfl) h
def Hi (a0:Sl) (a1:Sl) (g2:FuncId) (x2:List Value) (y2:List Value) (V:View) (Q:Value→View→Prop):Prop:=
 br (!decide ((a0.n:Int)=(a1.n:Int))) (Q (.bool false) V) (aG [K.int .i64] (fun(x:Int) V J=>br (decide (x<(a0.n:Int))) (0≤x∧x<(a0.n:Int)∧∃ad:Addr,a0.a=some ad∧∃x_1 x_2 x_3:Int,∃x_4 x_5:Sl,aq V (ad.add (x.toNat*5)) [.int .i64 x_1,.int .i64 x_2,.int .i64 x_3,.slice x_4.a x_4.n x_4.c,.slice x_5.a x_5.n x_5.c]∧∀(b:Nat),0≤x∧x<(a1.n:Int)∧∃ad:Addr,a1.a=some ad∧∃x_6 x_7 x_8:Int,∃x_9 x_10:Sl,aq V (ad.add (x.toNat*5)) [.int .i64 x_6,.int .i64 x_7,.int .i64 x_8,.slice x_9.a x_9.n x_9.c,.slice x_10.a x_10.n x_10.c]∧∀(b:Nat),af Tryz.prog g2 (Array.mk (Array.toList (Array.mk x2)++ [.agg ⟨[.int .i64 x_1,.int .i64 x_2,.int .i64 x_3,.slice x_4.a x_4.n x_4.c,.slice x_5.a x_5.n x_5.c]⟩,.agg ⟨[.int .i64 x_6,.int .i64 x_7,.int .i64 x_8,.slice x_9.a x_9.n x_9.c,.slice x_10.a x_10.n x_10.c]⟩]++Array.toList (Array.mk y2))) V fun r V=>∃x_11:Bool,r= .bool x_11∧br (!x_11) (Q (.bool false) V) (inI .i64 (x+1)∧J (x+1) V)) (Q (.bool true) V)) ((0:Int),()) V)
def Jk:AC:=(.seq qd (.seq (.seq qd (.cond none (.seq qd .leaf) .leaf)) (.seq (.seq qd (.block none (.loop ⟨([7,8,9]++rg 18 14),[(17,.int .i64)],[]⟩ (.seq qd (.seq (.cond none .leaf .leaf) (.seq (.block none (.seq qd (.seq qd (.seq qd (.cond none (.seq qd .leaf) .leaf))))) qd)))))) (.seq qd .leaf))))
theorem My {a0:Sl} {a1:Sl} {g2:FuncId} {x2:List Value} {y2:List Value} {V:View} {Q:Value→View→Prop} (h:Hi a0 a1 g2 x2 y2 V Q):af Tryz.prog 72 ⟨[(.slice a0.a a0.n a0.c),(.slice a1.a a1.n a1.c),(.func (.func g2) ⟨x2⟩ ⟨y2⟩)]⟩ V Q:=
 obx false Tryz.f72 Jk (by kernel_rfl) (by kernel_rfl) (by kernel_rfl) (by kernel_rfl) h
def Hj (a0_0:Int) (a0_1:Int) (a0_2:Int) (a0_3:Sl) (a0_4:Sl) (a1_0:Int) (a1_1:Int) (a1_2:Int) (a1_3:Sl) (a1_4:Sl) (V:View) (Q:Value→View→Prop):Prop:=
 ∀(b b:Nat),aA [K.bool] (fun J=>br (bif bif decide (a0_0=a1_0)then decide (a0_1=a1_1)else false then decide (a0_2=a1_2)else false) (af Tryz.prog 120 ⟨[.slice a0_3.a a0_3.n a0_3.c,.slice a1_3.a a1_3.n a1_3.c]⟩ V fun r V=>∃x:Bool,r= .bool x∧br x (af Tryz.prog 121 ⟨[.slice a0_4.a a0_4.n a0_4.c,.slice a1_4.a a1_4.n a1_4.c]⟩ V fun r V=>∃x:Bool,r= .bool x∧J x V) (J false V)) (J false V)) fun x V=>Q (.bool x) V
def Jl:AC:=(.seq qd (.seq (.reg ⟨.done,false,[],[],(some ⟨(rg 5 33),[(4,.bool)],[]⟩)⟩) .leaf))
theorem Mz {a0_0:Int} {a0_1:Int} {a0_2:Int} {a0_3:Sl} {a0_4:Sl} {a1_0:Int} {a1_1:Int} {a1_2:Int} {a1_3:Sl} {a1_4:Sl} {V:View} {Q:Value→View→Prop} (h:Hj a0_0 a0_1 a0_2 a0_3 a0_4 a1_0 a1_1 a1_2 a1_3 a1_4 V Q):af Tryz.prog 73 ⟨[(.agg ⟨[(.int .i64 a0_0),(.int .i64 a0_1),(.int .i64 a0_2),(.slice a0_3.a a0_3.n a0_3.c),(.slice a0_4.a a0_4.n a0_4.c)]⟩),(.agg ⟨[(.int .i64 a1_0),(.int .i64 a1_1),(.int .i64 a1_2),(.slice a1_3.a a1_3.n a1_3.c),(.slice a1_4.a a1_4.n a1_4.c)]⟩)]⟩ V Q:=
 obx false Tryz.f73 Jl (by kernel_rfl) (by kernel_rfl) (by kernel_rfl) (by kernel_rfl) h
def Hl (a0:Sl) (V:View) (Q:Value→View→Prop):Prop:=
 br (decide (10<(a0.n:Int))) (Q (.bool false) V) (aG [K.int .i64] (fun(x:Int) V J=>br (decide (x<(a0.n:Int))) (0≤x∧x<(a0.n:Int)∧∃ad:Addr,a0.a=some ad∧∃x_1:ByteArray,∃x_2:Int,aq V (ad.add (x.toNat*2)) [.string x_1,.int .i64 x_2]∧∀(b:Nat),aA [K.bool] (fun J=>True∧∃S:View,S.Le V∧af Tryz.prog 122 ⟨[.string x_1]⟩ V fun r V=>∃x_3:Bool,r= .bool x_3∧S.Le V∧∃S' :View,S.Le S' ∧S'.Le V∧br (!x_3) (J true V) (br (decide (0<x)) (inI .i64 (x-1)∧0≤x-1∧x-1<(a0.n:Int)∧∃ad:Addr,a0.a=some ad∧∃x_4:ByteArray,S'.cell? (Addr.add (ad.add (Int.toNat (x-1)*2)) (0:Nat))=some (.string x_4)∧J (bif bif !bf x_4 x_1 then true else decide (x_2<1)then true else decide (12≤x_2)) V) (J (bif decide (x_2<1)then true else decide (12≤x_2)) V))) fun x_3 V=>br x_3 (Q (.bool false) V) (inI .i64 (x+1)∧J (x+1) V)) (Q (.bool true) V)) ((0:Int),()) V)
def Jm:AC:=(.seq qd (.seq (.seq qd (.cond none (.seq qd .leaf) .leaf)) (.seq (.seq qd (.block none (.loop ⟨([3,4]++rg 11 34),[(10,.int .i64)],[]⟩ (.seq qd (.seq (.cond none .leaf .leaf) (.seq (.block none (.seq qd (.seq (.reg ⟨(.fl 0 (.fl 1 (.alt 2 true true (.fl 3 (.fl 4 (.fl 5 (.fl 6 (.fl 7 (.fl 8 (.fl 9 (.fl 10 (.fl 11 (.fl 12 (.fl 13 (.fl 14 (.fl 15 (.fl 16 (.fl 17 (.fl 18 (.fl 19 (.fl 20 (.fl 21 (.fl 22 (.fl 23 (.fl 24 (.fl 25 (.fl 26 (.fl 27 (.fl 28 .done)))))))))))))))))))))))))) .no))),true,[],[],(some ⟨(rg 15 28),[(43,.bool)],[]⟩)⟩) (.cond none (.seq qd .leaf) .leaf)))) qd)))))) (.seq qd .leaf))))
theorem MA {a0:Sl} {V:View} {Q:Value→View→Prop} (h:Hl a0 V Q):af Tryz.prog 74 ⟨[(.slice a0.a a0.n a0.c)]⟩ V Q:=
 obx false Tryz.f74 Jm (by kernel_rfl) (by kernel_rfl) (by kernel_rfl) (by kernel_rfl) h
def Ho (a0:Int) (V:View) (Q:Value→View→Prop):Prop:=
 ∀(b:Nat),br (decide (a0=1)) ((0:Int)≤5∧(5:Int)≤5∧(5:Int)*(↑(TypeInfo.bytes (Tables.types (Program.toTables Tryz.prog))[(3:Nat)]):Int)≤140737488355328∧(5:Int)≤140737488355328∧b7 V (Obj.cells (Array.mk (List.flatten (List.replicate (5:Nat) [.int .i64 0]))) (3:Nat)) fun r V=>Q (.agg ⟨[.int .i64 a0,.int .i64 1,.int .i64 0,.slice (some (Addr.mk r 0 none)) (5:Nat) (5:Nat),.slice none 0 0]⟩) V) (br (decide (a0=2)) (Q (.agg ⟨[.int .i64 a0,.int .i64 1,.int .i64 0,.slice none 0 0,.slice none 0 0]⟩) V) (Q (.agg ⟨[.int .i64 0,.int .i64 0,.int .i64 0,.slice none 0 0,.slice none 0 0]⟩) V))
def Jn:AC:=(.seq qd (.seq (.seq qd (.block none (.seq qd (.cond none (.seq qd .leaf) (.seq qd (.cond none (.seq qd .leaf) .leaf)))))) (.seq qd .leaf)))
theorem MB {a0:Int} {V:View} {Q:Value→View→Prop} (h:Ho a0 V Q):af Tryz.prog 75 ⟨[(.int .i64 a0)]⟩ V Q:=
 obx false Tryz.f75 Jn (by kernel_rfl) (by kernel_rfl) (by kernel_rfl) (by kernel_rfl) h
def Hp (a0:Int) (V:View) (Q:Value→View→Prop):Prop:=
 ∀(b:Nat),Q (Value.tuple ⟨[.agg ⟨[.slice none 0 0]⟩,.int .i64 a0]⟩) V
def Jo:AC:=(.seq qd (.seq qd .leaf))
theorem MC {a0:Int} {V:View} {Q:Value→View→Prop} (h:Hp a0 V Q):af Tryz.prog 76 ⟨[(.int .i64 a0)]⟩ V Q:=
 obx false Tryz.f76 Jo (by kernel_rfl) (by kernel_rfl) (by kernel_rfl) (by kernel_rfl) h
def Bt (a0_0:Sl) (V:View) (Q:Value→View→Prop):Prop:=
 ∀(b b b:Nat),aG [K.int .i64,K.sl] (fun(x:Int) (x_1:Sl) (V:View) (J:c7 [K.int .i64,K.sl])=>br (decide (x<(a0_0.n:Int))) (0≤x∧x<(a0_0.n:Int)∧∃ad:Addr,a0_0.a=some ad∧∃x_2 x_3 x_4:Int,∃x_5 x_6:Sl,aq V (ad.add (x.toNat*5)) [.int .i64 x_2,.int .i64 x_3,.int .i64 x_4,.slice x_5.a x_5.n x_5.c,.slice x_6.a x_6.n x_6.c]∧∀(b:Nat),True∧∃S:View,S.Le V∧af Tryz.prog 123 ⟨[.agg ⟨[.int .i64 x_2,.int .i64 x_3,.int .i64 x_4,.slice x_5.a x_5.n x_5.c,.slice x_6.a x_6.n x_6.c]⟩]⟩ V fun r V=>∃x_7 x_8 x_9:Int,∃x_10 x_11:Sl,r= .agg ⟨[.int .i64 x_7,.int .i64 x_8,.int .i64 x_9,.slice x_10.a x_10.n x_10.c,.slice x_11.a x_11.n x_11.c]⟩∧S.Le V∧b7 V (Obj.cells (Array.mk (bD [.int .i64 0,.int .i64 0,.int .i64 0,.slice none 0 0,.slice none 0 0] (0:Nat) [.int .i64 x_7,.int .i64 x_8,.int .i64 x_9,.slice x_10.a x_10.n x_10.c,.slice x_11.a x_11.n x_11.c])) (63:Nat)) fun r V=>S.Le V∧apV V (63:Nat) (5:Nat) (72:Nat) [.int .i64 0,.int .i64 0,.int .i64 0,.slice none 0 0,.slice none 0 0] (Sl.mk x_1.a x_1.n x_1.c) (.slice (some (Addr.mk r 0 none)) (1:Nat) (1:Nat)) fun s V=>inI .i64 (x+1)∧J (x+1) (Sl.mk s.a s.n s.c) V) (Q (.agg ⟨[.slice x_1.a x_1.n x_1.c]⟩) V)) ((0:Int),Sl.mk none (0:Nat) (0:Nat),()) V
def Jp:AC:=(.seq qd (.seq qd (.seq (.seq qd (.block none (.loop ⟨([5]++rg 10 11),[(9,.int .i64)],[(2,[.sl])]⟩ (.seq qd (.seq (.cond none .leaf .leaf) (.seq (.block none (.seq qd (.reg ⟨(.fl 0 (.fl 1 (.fl 2 (.alt 3 true false (.alt 4 true false (.alt 5 false false (.fl 6 (.alt 7 false false .done .no)) .no) .no) .no)))),true,[],[],none⟩))) qd)))))) (.seq qd .leaf))))
theorem Hq {a0_0:Sl} {V:View} {Q:Value→View→Prop} (h:Bt a0_0 V Q):af Tryz.prog 77 ⟨[(.agg ⟨[(.slice a0_0.a a0_0.n a0_0.c)]⟩)]⟩ V Q:=
 obx false Tryz.f77 Jp (by kernel_rfl) (by kernel_rfl) (by kernel_rfl) (by kernel_rfl) h
def Hr (a0_0:Sl) (a1:ByteArray) (V:View) (Q:Value→View→Prop):Prop:=
 ∀(b b:Nat),af Tryz.prog 124 ⟨[.agg ⟨[.slice a0_0.a a0_0.n a0_0.c]⟩,.string a1,.int .i64 1]⟩ V fun r V=>∃x:Sl,∃x_1:Int,r=Value.tuple ⟨[.agg ⟨[.slice x.a x.n x.c]⟩,.int .i64 x_1]⟩∧Q (Value.tuple ⟨[.agg ⟨[.slice x.a x.n x.c]⟩,.int .i64 x_1]⟩) V
def Jq:AC:=(.seq qd (.seq qd .leaf))
theorem MD {a0_0:Sl} {a1:ByteArray} {V:View} {Q:Value→View→Prop} (h:Hr a0_0 a1 V Q):af Tryz.prog 78 ⟨[(.agg ⟨[(.slice a0_0.a a0_0.n a0_0.c)]⟩),(.string a1)]⟩ V Q:=
 obx false Tryz.f78 Jq (by kernel_rfl) (by kernel_rfl) (by kernel_rfl) (by kernel_rfl) h
def Hs (a0_0:Sl) (a1:ByteArray) (V:View) (Q:Value→View→Prop):Prop:=
 ∀(b b:Nat),af Tryz.prog 124 ⟨[.agg ⟨[.slice a0_0.a a0_0.n a0_0.c]⟩,.string a1,.int .i64 2]⟩ V fun r V=>∃x:Sl,∃x_1:Int,r=Value.tuple ⟨[.agg ⟨[.slice x.a x.n x.c]⟩,.int .i64 x_1]⟩∧Q (Value.tuple ⟨[.agg ⟨[.slice x.a x.n x.c]⟩,.int .i64 x_1]⟩) V
def Jr:AC:=(.seq qd (.seq qd .leaf))
theorem ME {a0_0:Sl} {a1:ByteArray} {V:View} {Q:Value→View→Prop} (h:Hs a0_0 a1 V Q):af Tryz.prog 79 ⟨[(.agg ⟨[(.slice a0_0.a a0_0.n a0_0.c)]⟩),(.string a1)]⟩ V Q:=
 obx false Tryz.f79 Jr (by kernel_rfl) (by kernel_rfl) (by kernel_rfl) (by kernel_rfl) h
def Ht (a0_0:Sl) (a1:ByteArray) (a2:Sl) (V:View) (Q:Value→View→Prop):Prop:=
 ∀(b b:Nat),af Tryz.prog 125 ⟨[.agg ⟨[.slice a0_0.a a0_0.n a0_0.c]⟩,.string a1]⟩ V fun r V=>∃x:Int,∃x_1:ByteArray,∃x_2:Int,r=Value.tuple ⟨[.int .i64 x,.string x_1,.int .i64 x_2]⟩∧br (!decide (x_2=0)) (Q (Value.tuple ⟨[.agg ⟨[.slice none 0 0]⟩,.int .i64 x_2]⟩) V) (0≤x∧x<(a0_0.n:Int)∧∃ad:Addr,a0_0.a=some ad∧∃x_3:Sl,V.cell? (Addr.add (ad.add (x.toNat*5)) (4:Nat))=some (.slice x_3.a x_3.n x_3.c)∧af Tryz.prog 126 ⟨[.slice x_3.a x_3.n x_3.c,.string x_1]⟩ V fun r V=>∃x_4:Int,r= .int .i64 x_4∧br (decide (x_4<0)) (Q (Value.tuple ⟨[.agg ⟨[.slice none 0 0]⟩,.int .i64 8]⟩) V) (0≤x_4∧x_4<(a0_0.n:Int)∧∃ad:Addr,a0_0.a=some ad∧∃x_5:Int,V.cell? (Addr.add (ad.add (x_4.toNat*5)) (0:Nat))=some (.int .i64 x_5)∧br (decide (x_5=2)) (Q (Value.tuple ⟨[.agg ⟨[.slice none 0 0]⟩,.int .i64 10]⟩) V) (af Tryz.prog 77 ⟨[.agg ⟨[.slice a0_0.a a0_0.n a0_0.c]⟩]⟩ V fun r V=>∃x_6:Sl,r= .agg ⟨[.slice x_6.a x_6.n x_6.c]⟩∧∀(b:Nat),True∧∃S:View,S.Le V∧0≤x∧x<(a0_0.n:Int)∧∃ad:Addr,a0_0.a=some ad∧∃x_7:Sl,S.cell? (Addr.add (ad.add (x.toNat*5)) (4:Nat))=some (.slice x_7.a x_7.n x_7.c)∧af Tryz.prog 127 ⟨[.slice x_7.a x_7.n x_7.c,.string x_1]⟩ V fun r V=>∃x_8:Sl,∃x_9:Int,r=Value.tuple ⟨[.slice x_8.a x_8.n x_8.c,.int .i64 x_9]⟩∧S.Le V∧0≤x∧x<(x_6.n:Int)∧∃ad:Addr,x_6.a=some ad∧ay V (Addr.add (ad.add (x.toNat*5)) (4:Nat)) (nat_lit 1)∧af Tryz.prog 128 ⟨[.agg ⟨[.slice x_6.a x_6.n x_6.c]⟩,.int .i64 x_4,.slice a2.a a2.n a2.c]⟩ (V.sets (Addr.add (ad.add (x.toNat*5)) (4:Nat)) [.slice x_8.a x_8.n x_8.c]) fun r V=>r=Value.tuple ⟨[]⟩∧Q (Value.tuple ⟨[.agg ⟨[.slice x_6.a x_6.n x_6.c]⟩,.int .i64 0]⟩) V)))
def Js:AC:=(.seq qd (.seq qd (.seq (.seq qd (.cond none (.seq qd .leaf) .leaf)) (.seq qd (.seq (.block none (.seq qd (.cond none (.seq qd .leaf) (.seq qd (.cond none (.seq qd .leaf) .leaf))))) (.seq qd (.seq (.reg ⟨(.fl 0 (.fl 1 (.fl 2 (.fl 3 (.fl 4 (.fl 5 (.fl 6 (.fl 7 (.fl 8 (.fl 9 (.alt 10 true false (.fl 11 (.fl 12 (.fl 13 (.fl 14 (.fl 15 (.alt 16 false false .done .no)))))) .no))))))))))),true,[],[],none⟩) (.seq qd (.seq qd .leaf)))))))))
theorem MF {a0_0:Sl} {a1:ByteArray} {a2:Sl} {V:View} {Q:Value→View→Prop} (h:Ht a0_0 a1 a2 V Q):af Tryz.prog 80 ⟨[(.agg ⟨[(.slice a0_0.a a0_0.n a0_0.c)]⟩),(.string a1),(.slice a2.a a2.n a2.c)]⟩ V Q:=
 obx false Tryz.f80 Js (by kernel_rfl) (by kernel_rfl) (by kernel_rfl) (by kernel_rfl) h
def Hu (a0_0:Sl) (a1:ByteArray) (V:View) (Q:Value→View→Prop):Prop:=
 ∀(b b:Nat),af Tryz.prog 125 ⟨[.agg ⟨[.slice a0_0.a a0_0.n a0_0.c]⟩,.string a1]⟩ V fun r V=>∃x:Int,∃x_1:ByteArray,∃x_2:Int,r=Value.tuple ⟨[.int .i64 x,.string x_1,.int .i64 x_2]⟩∧br (!decide (x_2=0)) (Q (Value.tuple ⟨[.agg ⟨[.slice none 0 0]⟩,.int .i64 x_2]⟩) V) (0≤x∧x<(a0_0.n:Int)∧∃ad:Addr,a0_0.a=some ad∧∃x_3:Sl,V.cell? (Addr.add (ad.add (x.toNat*5)) (4:Nat))=some (.slice x_3.a x_3.n x_3.c)∧af Tryz.prog 126 ⟨[.slice x_3.a x_3.n x_3.c,.string x_1]⟩ V fun r V=>∃x_4:Int,r= .int .i64 x_4∧br (decide (x_4<0)) (Q (Value.tuple ⟨[.agg ⟨[.slice none 0 0]⟩,.int .i64 8]⟩) V) (0≤x_4∧x_4<(a0_0.n:Int)∧∃ad:Addr,a0_0.a=some ad∧∃x_5:Int,V.cell? (Addr.add (ad.add (x_4.toNat*5)) (0:Nat))=some (.int .i64 x_5)∧br (!decide (x_5=2)) (Q (Value.tuple ⟨[.agg ⟨[.slice none 0 0]⟩,.int .i64 11]⟩) V) (0≤x_4∧x_4<(a0_0.n:Int)∧∃ad:Addr,a0_0.a=some ad∧∃x_6:Sl,V.cell? (Addr.add (ad.add (x_4.toNat*5)) (4:Nat))=some (.slice x_6.a x_6.n x_6.c)∧br (decide (0<(x_6.n:Int))) (Q (Value.tuple ⟨[.agg ⟨[.slice none 0 0]⟩,.int .i64 12]⟩) V) (af Tryz.prog 77 ⟨[.agg ⟨[.slice a0_0.a a0_0.n a0_0.c]⟩]⟩ V fun r V=>∃x_7:Sl,r= .agg ⟨[.slice x_7.a x_7.n x_7.c]⟩∧∀(b:Nat),True∧∃S:View,S.Le V∧0≤x∧x<(a0_0.n:Int)∧∃ad:Addr,a0_0.a=some ad∧∃x_8:Sl,S.cell? (Addr.add (ad.add (x.toNat*5)) (4:Nat))=some (.slice x_8.a x_8.n x_8.c)∧af Tryz.prog 127 ⟨[.slice x_8.a x_8.n x_8.c,.string x_1]⟩ V fun r V=>∃x_9:Sl,∃x_10:Int,r=Value.tuple ⟨[.slice x_9.a x_9.n x_9.c,.int .i64 x_10]⟩∧S.Le V∧0≤x∧x<(x_7.n:Int)∧∃ad:Addr,x_7.a=some ad∧ay V (Addr.add (ad.add (x.toNat*5)) (4:Nat)) (nat_lit 1)∧0≤x_4∧x_4<(x_7.n:Int)∧∃ad_1:Addr,x_7.a=some ad_1∧ay (V.sets (Addr.add (ad.add (x.toNat*5)) (4:Nat)) [.slice x_9.a x_9.n x_9.c]) (ad_1.add (x_4.toNat*5)) (5:Nat)∧Q (Value.tuple ⟨[.agg ⟨[.slice x_7.a x_7.n x_7.c]⟩,.int .i64 0]⟩) (View.sets (V.sets (Addr.add (ad.add (x.toNat*5)) (4:Nat)) [.slice x_9.a x_9.n x_9.c]) (ad_1.add (x_4.toNat*5)) [.int .i64 0,.int .i64 0,.int .i64 0,.slice none 0 0,.slice none 0 0])))))
def Jt:AC:=(.seq qd (.seq qd (.seq (.seq qd (.cond none (.seq qd .leaf) .leaf)) (.seq qd (.seq (.block none (.seq qd (.cond none (.seq qd .leaf) (.seq qd (.cond none (.seq qd .leaf) (.seq qd (.cond none (.seq qd .leaf) .leaf))))))) (.seq qd (.seq (.reg ⟨(.fl 0 (.fl 1 (.fl 2 (.fl 3 (.fl 4 (.fl 5 (.fl 6 (.fl 7 (.fl 8 (.fl 9 (.alt 10 true false (.fl 11 (.fl 12 (.fl 13 (.fl 14 (.fl 15 (.alt 16 false false .done .no)))))) .no))))))))))),true,[],[],none⟩) (.seq qd (.seq qd .leaf)))))))))
theorem MG {a0_0:Sl} {a1:ByteArray} {V:View} {Q:Value→View→Prop} (h:Hu a0_0 a1 V Q):af Tryz.prog 81 ⟨[(.agg ⟨[(.slice a0_0.a a0_0.n a0_0.c)]⟩),(.string a1)]⟩ V Q:=
 obx false Tryz.f81 Jt (by kernel_rfl) (by kernel_rfl) (by kernel_rfl) (by kernel_rfl) h
def Hv (a0_0:Sl) (a1:ByteArray) (a2:ByteArray) (a3:Sl) (V:View) (Q:Value→View→Prop):Prop:=
 ∀(b b:Nat),af Tryz.prog 125 ⟨[.agg ⟨[.slice a0_0.a a0_0.n a0_0.c]⟩,.string a1]⟩ V fun r V=>∃x:Int,∃x_1:ByteArray,∃x_2:Int,r=Value.tuple ⟨[.int .i64 x,.string x_1,.int .i64 x_2]⟩∧br (!decide (x_2=0)) (Q (Value.tuple ⟨[.agg ⟨[.slice none 0 0]⟩,.int .i64 x_2]⟩) V) (0≤x∧x<(a0_0.n:Int)∧∃ad:Addr,a0_0.a=some ad∧∃x_3:Sl,V.cell? (Addr.add (ad.add (x.toNat*5)) (4:Nat))=some (.slice x_3.a x_3.n x_3.c)∧af Tryz.prog 126 ⟨[.slice x_3.a x_3.n x_3.c,.string x_1]⟩ V fun r V=>∃x_4:Int,r= .int .i64 x_4∧br (decide (x_4<0)) (Q (Value.tuple ⟨[.agg ⟨[.slice none 0 0]⟩,.int .i64 8]⟩) V) (af Tryz.prog 125 ⟨[.agg ⟨[.slice a0_0.a a0_0.n a0_0.c]⟩,.string a2]⟩ V fun r V=>∃x_5:Int,∃x_6:ByteArray,∃x_7:Int,r=Value.tuple ⟨[.int .i64 x_5,.string x_6,.int .i64 x_7]⟩∧br (!decide (x_7=0)) (Q (Value.tuple ⟨[.agg ⟨[.slice none 0 0]⟩,.int .i64 x_7]⟩) V) (0≤x_5∧x_5<(a0_0.n:Int)∧∃ad:Addr,a0_0.a=some ad∧∃x_8:Sl,V.cell? (Addr.add (ad.add (x_5.toNat*5)) (4:Nat))=some (.slice x_8.a x_8.n x_8.c)∧af Tryz.prog 126 ⟨[.slice x_8.a x_8.n x_8.c,.string x_6]⟩ V fun r V=>∃x_9:Int,r= .int .i64 x_9∧br (decide (x_9=x_4)) (af Tryz.prog 77 ⟨[.agg ⟨[.slice a0_0.a a0_0.n a0_0.c]⟩]⟩ V fun r V=>∃x:Sl,r= .agg ⟨[.slice x.a x.n x.c]⟩∧Q (Value.tuple ⟨[.agg ⟨[.slice x.a x.n x.c]⟩,.int .i64 0]⟩) V) (0≤x_4∧x_4<(a0_0.n:Int)∧∃ad:Addr,a0_0.a=some ad∧∃x_10:Int,V.cell? (Addr.add (ad.add (x_4.toNat*5)) (0:Nat))=some (.int .i64 x_10)∧aA [K.bool] (fun J=>br (decide (x_10=2)) (af Tryz.prog 129 ⟨[.agg ⟨[.slice a0_0.a a0_0.n a0_0.c]⟩,.int .i64 x_4,.int .i64 x_5]⟩ V fun r V=>∃x:Bool,r= .bool x∧J x V) (J false V)) fun x_11 V=>br x_11 (Q (Value.tuple ⟨[.agg ⟨[.slice none 0 0]⟩,.int .i64 17]⟩) V) (aA [K.bool] (fun J=>br (bif decide (0≤x_9)then decide (x_10=2)else false) (0≤x_9∧x_9<(a0_0.n:Int)∧∃ad:Addr,a0_0.a=some ad∧∃x:Int,V.cell? (Addr.add (ad.add (x_9.toNat*5)) (0:Nat))=some (.int .i64 x)∧J (!decide (x=2)) V) (J false V)) fun x_12 V=>br x_12 (Q (Value.tuple ⟨[.agg ⟨[.slice none 0 0]⟩,.int .i64 11]⟩) V) (aA [K.bool] (fun J=>br (bif decide (0≤x_9)then !decide (x_10=2)else false) (0≤x_9∧x_9<(a0_0.n:Int)∧∃ad:Addr,a0_0.a=some ad∧∃x:Int,V.cell? (Addr.add (ad.add (x_9.toNat*5)) (0:Nat))=some (.int .i64 x)∧J (decide (x=2)) V) (J false V)) fun x_13 V=>br x_13 (Q (Value.tuple ⟨[.agg ⟨[.slice none 0 0]⟩,.int .i64 10]⟩) V) (aA [K.bool] (fun J=>br (bif decide (0≤x_9)then decide (x_10=2)else false) (0≤x_9∧x_9<(a0_0.n:Int)∧∃ad:Addr,a0_0.a=some ad∧∃x:Sl,V.cell? (Addr.add (ad.add (x_9.toNat*5)) (4:Nat))=some (.slice x.a x.n x.c)∧J (decide (0<(x.n:Int))) V) (J false V)) fun x_14 V=>br x_14 (Q (Value.tuple ⟨[.agg ⟨[.slice none 0 0]⟩,.int .i64 12]⟩) V) (af Tryz.prog 77 ⟨[.agg ⟨[.slice a0_0.a a0_0.n a0_0.c]⟩]⟩ V fun r V=>∃x_15:Sl,r= .agg ⟨[.slice x_15.a x_15.n x_15.c]⟩∧∀(b:Nat),True∧∃S:View,S.Le V∧0≤x∧x<(x_15.n:Int)∧∃ad:Addr,x_15.a=some ad∧∃x_16:Sl,S.cell? (Addr.add (ad.add (x.toNat*5)) (4:Nat))=some (.slice x_16.a x_16.n x_16.c)∧af Tryz.prog 127 ⟨[.slice x_16.a x_16.n x_16.c,.string x_1]⟩ V fun r V=>∃x_17:Sl,∃x_18:Int,r=Value.tuple ⟨[.slice x_17.a x_17.n x_17.c,.int .i64 x_18]⟩∧S.Le V∧0≤x∧x<(x_15.n:Int)∧∃ad:Addr,x_15.a=some ad∧ay V (Addr.add (ad.add (x.toNat*5)) (4:Nat)) (nat_lit 1)∧aA [] (fun J=>br (decide (0≤x_9)) (True∧∃S:View,S.Le (V.sets (Addr.add (ad.add (x.toNat*5)) (4:Nat)) [.slice x_17.a x_17.n x_17.c])∧0≤x_5∧x_5<(x_15.n:Int)∧∃ad_1:Addr,x_15.a=some ad_1∧∃x_19:Sl,S.cell? (Addr.add (ad_1.add (x_5.toNat*5)) (4:Nat))=some (.slice x_19.a x_19.n x_19.c)∧af Tryz.prog 127 ⟨[.slice x_19.a x_19.n x_19.c,.string x_6]⟩ (V.sets (Addr.add (ad.add (x.toNat*5)) (4:Nat)) [.slice x_17.a x_17.n x_17.c]) fun r V=>∃x:Sl,∃x_20:Int,r=Value.tuple ⟨[.slice x.a x.n x.c,.int .i64 x_20]⟩∧S.Le V∧0≤x_5∧x_5<(x_15.n:Int)∧∃ad:Addr,x_15.a=some ad∧ay V (Addr.add (ad.add (x_5.toNat*5)) (4:Nat)) (nat_lit 1)∧aA [] (fun J=>br (decide (x_10=2)) (0≤x_9∧x_9<(x_15.n:Int)∧∃ad_2:Addr,x_15.a=some ad_2∧ay (V.sets (Addr.add (ad.add (x_5.toNat*5)) (4:Nat)) [.slice x.a x.n x.c]) (ad_2.add (x_9.toNat*5)) (5:Nat)∧J (View.sets (V.sets (Addr.add (ad.add (x_5.toNat*5)) (4:Nat)) [.slice x.a x.n x.c]) (ad_2.add (x_9.toNat*5)) [.int .i64 0,.int .i64 0,.int .i64 0,.slice none 0 0,.slice none 0 0])) (af Tryz.prog 128 ⟨[.agg ⟨[.slice x_15.a x_15.n x_15.c]⟩,.int .i64 x_9,.slice a3.a a3.n a3.c]⟩ (V.sets (Addr.add (ad.add (x_5.toNat*5)) (4:Nat)) [.slice x.a x.n x.c]) fun r V=>r=Value.tuple ⟨[]⟩∧J V)) fun(V:View)=>J V) (J (V.sets (Addr.add (ad.add (x.toNat*5)) (4:Nat)) [.slice x_17.a x_17.n x_17.c]))) fun(V:View)=>0≤x_5∧x_5<(x_15.n:Int)∧∃ad:Addr,x_15.a=some ad∧∃x:Sl,V.cell? (Addr.add (ad.add (x_5.toNat*5)) (4:Nat))=some (.slice x.a x.n x.c)∧af Tryz.prog 130 ⟨[.slice x.a x.n x.c,.string x_6,.int .i64 x_4]⟩ V fun r V=>∃x:Sl,∃x_19:Int,r=Value.tuple ⟨[.slice x.a x.n x.c,.int .i64 x_19]⟩∧br (!decide (x_19=0)) (Q (Value.tuple ⟨[.agg ⟨[.slice none 0 0]⟩,.int .i64 x_19]⟩) V) (0≤x_5∧x_5<(x_15.n:Int)∧∃ad:Addr,x_15.a=some ad∧ay V (Addr.add (ad.add (x_5.toNat*5)) (4:Nat)) (nat_lit 1)∧Q (Value.tuple ⟨[.agg ⟨[.slice x_15.a x_15.n x_15.c]⟩,.int .i64 0]⟩) (V.sets (Addr.add (ad.add (x_5.toNat*5)) (4:Nat)) [.slice x.a x.n x.c]))))))))))
def Ju:AC:=(.seq qd (.seq qd (.seq (.seq qd (.cond none (.seq qd .leaf) .leaf)) (.seq qd (.seq (.seq qd (.cond none (.seq qd .leaf) .leaf)) (.seq qd (.seq (.seq qd (.cond none (.seq qd .leaf) .leaf)) (.seq qd (.seq (.seq qd (.cond none (.seq qd .leaf) .leaf)) (.seq qd (.seq (.block none (.seq (.reg ⟨.done,false,[],[],(some ⟨(rg 74 7),[(73,.bool)],[]⟩)⟩) (.cond none (.seq qd .leaf) (.seq (.reg ⟨.done,false,[],[],(some ⟨(rg 83 14),[(82,.bool)],[]⟩)⟩) (.cond none (.seq qd .leaf) (.seq (.reg ⟨.done,false,[],[],(some ⟨(rg 99 15),[(98,.bool)],[]⟩)⟩) (.cond none (.seq qd .leaf) (.seq (.reg ⟨.done,false,[],[],(some ⟨(rg 116 15),[(115,.bool)],[]⟩)⟩) (.cond none (.seq qd .leaf) .leaf))))))))) (.seq qd (.seq (.reg ⟨(.fl 0 (.fl 1 (.fl 2 (.fl 3 (.fl 4 (.fl 5 (.fl 6 (.fl 7 (.fl 8 (.fl 9 (.alt 10 true false (.fl 11 (.fl 12 (.fl 13 (.fl 14 (.fl 15 (.alt 16 false false .done .no)))))) .no))))))))))),true,[],[],none⟩) (.seq (.seq qd (.cond (some ⟨(rg 152 26),[],[]⟩) (.seq (.reg ⟨(.fl 0 (.fl 1 (.fl 2 (.fl 3 (.fl 4 (.fl 5 (.fl 6 (.fl 7 (.fl 8 (.fl 9 (.alt 10 true false (.fl 11 (.fl 12 (.fl 13 (.fl 14 (.fl 15 (.alt 16 false false .done .no)))))) .no))))))))))),true,[],[],none⟩) (.seq qd (.cond (some ⟨(rg 169 9),[],[]⟩) qd qd))) .leaf)) (.seq qd (.seq (.seq qd (.cond none (.seq qd .leaf) .leaf)) (.seq qd (.seq qd .leaf))))))))))))))))))
theorem MH {a0_0:Sl} {a1:ByteArray} {a2:ByteArray} {a3:Sl} {V:View} {Q:Value→View→Prop} (h:Hv a0_0 a1 a2 a3 V Q):af Tryz.prog 82 ⟨[(.agg ⟨[(.slice a0_0.a a0_0.n a0_0.c)]⟩),(.string a1),(.string a2),(.slice a3.a a3.n a3.c)]⟩ V Q:=
 obx false Tryz.f82 Ju (by kernel_rfl) (by kernel_rfl) (by kernel_rfl) (by kernel_rfl) h
def Hw (a0_0:Sl) (a1:ByteArray) (a2:ByteArray) (V:View) (Q:Value→View→Prop):Prop:=
 ∀(b b:Nat),af Tryz.prog 84 ⟨[.agg ⟨[.slice a0_0.a a0_0.n a0_0.c]⟩,.string a1]⟩ V fun r V=>∃x x_1:Int,r=Value.tuple ⟨[.int .i64 x,.int .i64 x_1]⟩∧br (!decide (x_1=0)) (Q (Value.tuple ⟨[.agg ⟨[.slice none 0 0]⟩,.int .i64 x_1]⟩) V) (0≤x∧x<(a0_0.n:Int)∧∃ad:Addr,a0_0.a=some ad∧∃x_2:Int,V.cell? (Addr.add (ad.add (x.toNat*5)) (0:Nat))=some (.int .i64 x_2)∧br (decide (x_2=2)) (Q (Value.tuple ⟨[.agg ⟨[.slice none 0 0]⟩,.int .i64 10]⟩) V) (af Tryz.prog 125 ⟨[.agg ⟨[.slice a0_0.a a0_0.n a0_0.c]⟩,.string a2]⟩ V fun r V=>∃x_3:Int,∃x_4:ByteArray,∃x_5:Int,r=Value.tuple ⟨[.int .i64 x_3,.string x_4,.int .i64 x_5]⟩∧br (!decide (x_5=0)) (Q (Value.tuple ⟨[.agg ⟨[.slice none 0 0]⟩,.int .i64 x_5]⟩) V) (0≤x_3∧x_3<(a0_0.n:Int)∧∃ad:Addr,a0_0.a=some ad∧∃x_6:Sl,V.cell? (Addr.add (ad.add (x_3.toNat*5)) (4:Nat))=some (.slice x_6.a x_6.n x_6.c)∧af Tryz.prog 130 ⟨[.slice x_6.a x_6.n x_6.c,.string x_4,.int .i64 x]⟩ V fun r V=>∃x_7:Sl,∃x_8:Int,r=Value.tuple ⟨[.slice x_7.a x_7.n x_7.c,.int .i64 x_8]⟩∧br (!decide (x_8=0)) (Q (Value.tuple ⟨[.agg ⟨[.slice none 0 0]⟩,.int .i64 x_8]⟩) V) (af Tryz.prog 77 ⟨[.agg ⟨[.slice a0_0.a a0_0.n a0_0.c]⟩]⟩ V fun r V=>∃x_9:Sl,r= .agg ⟨[.slice x_9.a x_9.n x_9.c]⟩∧∀(b:Nat),0≤x_3∧x_3<(x_9.n:Int)∧∃ad:Addr,x_9.a=some ad∧ay V (Addr.add (ad.add (x_3.toNat*5)) (4:Nat)) (nat_lit 1)∧0≤x∧x<(x_9.n:Int)∧∃ad_1:Addr,x_9.a=some ad_1∧∃x_10:Int,View.cell? (V.sets (Addr.add (ad.add (x_3.toNat*5)) (4:Nat)) [.slice x_7.a x_7.n x_7.c]) (Addr.add (ad_1.add (x.toNat*5)) (1:Nat))=some (.int .i64 x_10)∧inI .i64 (x_10+1)∧0≤x∧x<(x_9.n:Int)∧∃ad_2:Addr,x_9.a=some ad_2∧ay (V.sets (Addr.add (ad.add (x_3.toNat*5)) (4:Nat)) [.slice x_7.a x_7.n x_7.c]) (Addr.add (ad_2.add (x.toNat*5)) (1:Nat)) (nat_lit 1)∧Q (Value.tuple ⟨[.agg ⟨[.slice x_9.a x_9.n x_9.c]⟩,.int .i64 0]⟩) (View.sets (V.sets (Addr.add (ad.add (x_3.toNat*5)) (4:Nat)) [.slice x_7.a x_7.n x_7.c]) (Addr.add (ad_2.add (x.toNat*5)) (1:Nat)) [.int .i64 (x_10+1)])))))
def Jv:AC:=(.seq qd (.seq qd (.seq (.seq qd (.cond none (.seq qd .leaf) .leaf)) (.seq (.seq qd (.cond none (.seq qd .leaf) .leaf)) (.seq qd (.seq (.seq qd (.cond none (.seq qd .leaf) .leaf)) (.seq qd (.seq (.seq qd (.cond none (.seq qd .leaf) .leaf)) (.seq qd (.seq qd (.seq qd (.seq qd .leaf))))))))))))
theorem MJ {a0_0:Sl} {a1:ByteArray} {a2:ByteArray} {V:View} {Q:Value→View→Prop} (h:Hw a0_0 a1 a2 V Q):af Tryz.prog 83 ⟨[(.agg ⟨[(.slice a0_0.a a0_0.n a0_0.c)]⟩),(.string a1),(.string a2)]⟩ V Q:=
 obx false Tryz.f83 Jv (by kernel_rfl) (by kernel_rfl) (by kernel_rfl) (by kernel_rfl) h
def Hx (a0_0:Sl) (a1:ByteArray) (V:View) (Q:Value→View→Prop):Prop:=
 ∀(b:Nat),af Tryz.prog 18 ⟨[.agg ⟨[.slice a0_0.a a0_0.n a0_0.c]⟩]⟩ V fun r V=>∃x:Bool,r= .bool x∧br (!x) (Q (Value.tuple ⟨[.int .i64 0,.int .i64 1]⟩) V) (af Tryz.prog 131 ⟨[.string a1]⟩ V fun r V=>∃x:Sl,∃x_1:Int,r=Value.tuple ⟨[.slice x.a x.n x.c,.int .i64 x_1]⟩∧br (!decide (x_1=0)) (Q (Value.tuple ⟨[.int .i64 0,.int .i64 x_1]⟩) V) (af Tryz.prog 132 ⟨[.agg ⟨[.slice a0_0.a a0_0.n a0_0.c]⟩,.slice x.a x.n x.c]⟩ V fun r V=>∃x x_2:Int,r=Value.tuple ⟨[.int .i64 x,.int .i64 x_2]⟩∧Q (Value.tuple ⟨[.int .i64 x,.int .i64 x_2]⟩) V))
def Jw:AC:=(.seq qd (.seq (.seq qd (.cond none (.seq qd .leaf) .leaf)) (.seq qd (.seq (.seq qd (.cond none (.seq qd .leaf) .leaf)) (.seq qd .leaf)))))
theorem MK {a0_0:Sl} {a1:ByteArray} {V:View} {Q:Value→View→Prop} (h:Hx a0_0 a1 V Q):af Tryz.prog 84 ⟨[(.agg ⟨[(.slice a0_0.a a0_0.n a0_0.c)]⟩),(.string a1)]⟩ V Q:=
 obx false Tryz.f84 Jw (by kernel_rfl) (by kernel_rfl) (by kernel_rfl) (by kernel_rfl) h
def Hy (a0:Sl) (a1:Int) (V:View) (Q:Value→View→Prop):Prop:=
 af Tryz.prog 87 ⟨[.slice a0.a a0.n a0.c]⟩ V fun r V=>∃x:Bool,r= .bool x∧br (bif bif !x then true else decide (a1<0)then true else decide (12≤a1)) (Q (Value.tuple ⟨[.slice none 0 0,.int .i64 0,.int .i64 1]⟩) V) (aG [K.int .i64] (fun(x:Int) V J=>br (decide (x<(a0.n:Int))) (0≤x∧x<(a0.n:Int)∧∃ad:Addr,a0.a=some ad∧∃x_1:Int,V.cell? (ad.add (x.toNat*1))=some (.int .i64 x_1)∧br (decide (x_1<0)) (apV V (3:Nat) (1:Nat) (8:Nat) [.int .i64 0] (Sl.mk none (0:Nat) (0:Nat)) (.slice a0.a a0.n a0.c) fun s V=>0≤x∧x<(s.n:Int)∧∃ad:Addr,s.a=some ad∧ay V (ad.add (x.toNat*1)) (nat_lit 1)∧Q (Value.tuple ⟨[.slice s.a s.n s.c,.int .i64 x,.int .i64 0]⟩) (V.sets (ad.add (x.toNat*1)) [.int .i64 a1])) (inI .i64 (x+1)∧J (x+1) V)) (Q (Value.tuple ⟨[.slice none 0 0,.int .i64 0,.int .i64 15]⟩) V)) ((0:Int),()) V)
def Jx:AC:=(.seq qd (.seq (.seq qd (.cond none (.seq qd .leaf) .leaf)) (.seq (.seq qd (.block none (.loop ⟨([7,8]++rg 24 6++ [38]),[(23,.int .i64)],[]⟩ (.seq qd (.seq (.cond none .leaf .leaf) (.seq (.block none (.seq qd (.seq qd (.cond none (.seq qd (.seq qd (.seq qd .leaf))) .leaf)))) qd)))))) (.seq qd .leaf))))
theorem ML {a0:Sl} {a1:Int} {V:View} {Q:Value→View→Prop} (h:Hy a0 a1 V Q):af Tryz.prog 85 ⟨[(.slice a0.a a0.n a0.c),(.int .i64 a1)]⟩ V Q:=
 obx false Tryz.f85 Jx (by kernel_rfl) (by kernel_rfl) (by kernel_rfl) (by kernel_rfl) h
def Hz (a0:Sl) (a1:Int) (V:View) (Q:Value→View→Prop):Prop:=
 af Tryz.prog 87 ⟨[.slice a0.a a0.n a0.c]⟩ V fun r V=>∃x:Bool,r= .bool x∧br (!x) (Q (Value.tuple ⟨[.int .i64 0,.int .i64 1]⟩) V) (aA [K.bool] (fun J=>br (bif decide (a1<0)then true else decide ((a0.n:Int)≤a1)) (J true V) (0≤a1∧a1<(a0.n:Int)∧∃ad:Addr,a0.a=some ad∧∃x:Int,V.cell? (ad.add (a1.toNat*1))=some (.int .i64 x)∧J (decide (x<0)) V)) fun x V=>br x (Q (Value.tuple ⟨[.int .i64 0,.int .i64 15]⟩) V) (0≤a1∧a1<(a0.n:Int)∧∃ad:Addr,a0.a=some ad∧∃x:Int,V.cell? (ad.add (a1.toNat*1))=some (.int .i64 x)∧Q (Value.tuple ⟨[.int .i64 x,.int .i64 0]⟩) V))
def Jy:AC:=(.seq qd (.seq (.seq qd (.cond none (.seq qd .leaf) .leaf)) (.seq (.seq (.reg ⟨.done,false,[],[],(some ⟨(rg 9 14),[(23,.bool)],[]⟩)⟩) (.cond none (.seq qd .leaf) .leaf)) (.seq qd .leaf))))
theorem MM {a0:Sl} {a1:Int} {V:View} {Q:Value→View→Prop} (h:Hz a0 a1 V Q):af Tryz.prog 86 ⟨[(.slice a0.a a0.n a0.c),(.int .i64 a1)]⟩ V Q:=
 obx false Tryz.f86 Jy (by kernel_rfl) (by kernel_rfl) (by kernel_rfl) (by kernel_rfl) h
def HA (a0:Sl) (V:View) (Q:Value→View→Prop):Prop:=
 aG [K.int .i64] (fun(x:Int) V J=>br (decide (x<(a0.n:Int))) (0≤x∧x<(a0.n:Int)∧∃ad:Addr,a0.a=some ad∧∃x_1:Int,V.cell? (ad.add (x.toNat*1))=some (.int .i64 x_1)∧br (bif decide (x_1<(-1:Int))then true else decide (12≤x_1)) (Q (.bool false) V) (inI .i64 (x+1)∧J (x+1) V)) (Q (.bool (decide ((a0.n:Int)=4))) V)) ((0:Int),()) V
def Jz:AC:=(.seq qd (.seq (.seq qd (.block none (.loop ⟨([4]++rg 8 10),[(7,.int .i64)],[]⟩ (.seq qd (.seq (.cond none .leaf .leaf) (.seq (.block none (.seq qd (.seq qd (.cond none (.seq qd .leaf) .leaf)))) qd)))))) (.seq qd .leaf)))
theorem MN {a0:Sl} {V:View} {Q:Value→View→Prop} (h:HA a0 V Q):af Tryz.prog 87 ⟨[(.slice a0.a a0.n a0.c)]⟩ V Q:=
 obx false Tryz.f87 Jz (by kernel_rfl) (by kernel_rfl) (by kernel_rfl) (by kernel_rfl) h
def HB (a0_0:Sl) (a1:Int) (a2:Int) (a3:Int) (V:View) (Q:Value→View→Prop):Prop:=
 ∀(b:Nat),af Tryz.prog 133 ⟨[.agg ⟨[.slice a0_0.a a0_0.n a0_0.c]⟩,.int .i64 a1]⟩ V fun r V=>∃x:Bool,r= .bool x∧br (bif bif !x then true else decide (a2<0)then true else decide (a3<0)) (Q (Value.tuple ⟨[.slice none 0 0,.int .i64 1]⟩) V) (0≤a1∧a1<(a0_0.n:Int)∧∃ad:Addr,a0_0.a=some ad∧∃x:Int,V.cell? (Addr.add (ad.add (a1.toNat*5)) (2:Nat))=some (.int .i64 x)∧af Tryz.prog 135 ⟨[.int .i64 x,.int .i64 a2,.int .i64 a3]⟩ V fun r V=>∃x:Int,r= .int .i64 x∧af Tryz.prog 134 ⟨[.int .i64 a2,.int .i64 x]⟩ V fun r V=>∃x:Sl,r= .slice x.a x.n x.c∧Q (Value.tuple ⟨[.slice x.a x.n x.c,.int .i64 0]⟩) V)
def JA:AC:=(.seq qd (.seq (.seq qd (.cond none (.seq qd .leaf) .leaf)) (.seq qd .leaf)))
theorem MO {a0_0:Sl} {a1:Int} {a2:Int} {a3:Int} {V:View} {Q:Value→View→Prop} (h:HB a0_0 a1 a2 a3 V Q):af Tryz.prog 88 ⟨[(.agg ⟨[(.slice a0_0.a a0_0.n a0_0.c)]⟩),(.int .i64 a1),(.int .i64 a2),(.int .i64 a3)]⟩ V Q:=
 obx false Tryz.f88 JA (by kernel_rfl) (by kernel_rfl) (by kernel_rfl) (by kernel_rfl) h
def HC (a0_0:Sl) (a1:Int) (a2:Int) (a3:Int) (a4:Sl) (V:View) (Q:Value→View→Prop):Prop:=
 ∀(b b:Nat),af Tryz.prog 133 ⟨[.agg ⟨[.slice a0_0.a a0_0.n a0_0.c]⟩,.int .i64 a2]⟩ V fun r V=>∃x:Bool,r= .bool x∧br (bif !x then true else decide (a3<0)) (Q (Value.tuple ⟨[.agg ⟨[.slice none 0 0]⟩,.slice none 0 0,.int .i64 1]⟩) V) (br (decide ((a4.n:Int)=0)) (af Tryz.prog 77 ⟨[.agg ⟨[.slice a0_0.a a0_0.n a0_0.c]⟩]⟩ V fun r V=>∃x:Sl,r= .agg ⟨[.slice x.a x.n x.c]⟩∧Q (Value.tuple ⟨[.agg ⟨[.slice x.a x.n x.c]⟩,.slice none 0 0,.int .i64 0]⟩) V) (af Tryz.prog 136 ⟨[.int .i64 a3,.int .i64 (a4.n:Int)]⟩ V fun r V=>∃x:Bool,r= .bool x∧br (!x) (Q (Value.tuple ⟨[.agg ⟨[.slice none 0 0]⟩,.slice none 0 0,.int .i64 16]⟩) V) (0≤a2∧a2<(a0_0.n:Int)∧∃ad:Addr,a0_0.a=some ad∧∃x x_1 x_2:Int,∃x_3 x_4:Sl,aq V (ad.add (a2.toNat*5)) [.int .i64 x,.int .i64 x_1,.int .i64 x_2,.slice x_3.a x_3.n x_3.c,.slice x_4.a x_4.n x_4.c]∧∀(b:Nat),True∧∃S:View,S.Le V∧af Tryz.prog 19 ⟨[.agg ⟨[.slice a0_0.a a0_0.n a0_0.c]⟩]⟩ V fun r V=>∃x_5:Int,r= .int .i64 x_5∧S.Le V∧af Tryz.prog 137 ⟨[.agg ⟨[.int .i64 x,.int .i64 x_1,.int .i64 x_2,.slice x_3.a x_3.n x_3.c,.slice x_4.a x_4.n x_4.c]⟩,.int .i64 a3,.int .i64 (a4.n:Int)]⟩ V fun r V=>∃x:Int,r= .int .i64 x∧inI .i64 (x_5+x)∧br (decide (a1<x_5+x)) (Q (Value.tuple ⟨[.agg ⟨[.slice none 0 0]⟩,.slice none 0 0,.int .i64 13]⟩) V) (af Tryz.prog 77 ⟨[.agg ⟨[.slice a0_0.a a0_0.n a0_0.c]⟩]⟩ V fun r V=>∃x:Sl,r= .agg ⟨[.slice x.a x.n x.c]⟩∧∀(b:Nat),inI .i64 (a3+(a4.n:Int))∧0≤a2∧a2<(x.n:Int)∧∃ad:Addr,x.a=some ad∧ay V (Addr.add (ad.add (a2.toNat*5)) (2:Nat)) (nat_lit 1)∧af Tryz.prog 134 ⟨[.int .i64 a3,.int .i64 (a4.n:Int)]⟩ (V.sets (Addr.add (ad.add (a2.toNat*5)) (2:Nat)) [.int .i64 (if a3+(a4.n:Int)>x_2 then a3+(a4.n:Int)else x_2)]) fun r V=>∃x_6:Sl,r= .slice x_6.a x_6.n x_6.c∧aG [K.sl,K.sl,K.int .i64] (fun(x_7 x_8:Sl) (x_9:Int) (V:View) (J:c7 [K.sl,K.sl,K.int .i64])=>br (decide (x_9<(x_6.n:Int))) (0≤x_9∧x_9<(x_6.n:Int)∧∃ad:Addr,x_6.a=some ad∧∃x x_10 x_11:Int,aq V (ad.add (x_9.toNat*3)) [.int .i64 x,.int .i64 x_10,.int .i64 x_11]∧∀(b:Nat),True∧∃S:View,S.Le V∧0≤x∧x<(x_3.n:Int)∧∃ad:Addr,x_3.a=some ad∧∃x_12:Int,S.cell? (ad.add (x.toNat*1))=some (.int .i64 x_12)∧(0:Int)≤0∧0≤x_11∧x_11≤(↑x_7.c:Int)∧apV V (5:Nat) (1:Nat) (1:Nat) [.int .u8 0] (Sl.mk none (0:Nat) (0:Nat)) (.slice (if x_7.c=(0:Nat)then x_7.a else Option.map (fun(x:Addr)=>x.add (0:Nat)) x_7.a) (x_11.toNat-(0:Nat)) (x_7.c-(0:Nat))) fun s V=>S.Le V∧b7 V (Obj.cells (Array.mk (bD [.int .i64 0,.int .i64 0,.int .i64 0,.int .i64 0,.int .i64 0,.slice none 0 0] (0:Nat) [.int .i64 a2,.int .i64 x,.int .i64 x_12,.int .i64 16,.int .i64 x_10,.slice s.a s.n s.c])) (77:Nat)) fun r V=>apV V (77:Nat) (6:Nat) (64:Nat) [.int .i64 0,.int .i64 0,.int .i64 0,.int .i64 0,.int .i64 0,.slice none 0 0] (Sl.mk x_8.a x_8.n x_8.c) (.slice (some (Addr.mk r 0 none)) (1:Nat) (1:Nat)) fun s V=>0≤x_11∧x_11≤(x_7.n:Int)∧(x_7.n:Int)≤(↑x_7.c:Int)∧inI .i64 (x_9+1)∧J (Sl.mk (if x_7.c=x_11.toNat then x_7.a else Option.map (fun(x:Addr)=>x.add (x_11.toNat*1)) x_7.a) (Int.toNat (x_7.n:Int)-x_11.toNat) (x_7.c-x_11.toNat)) (Sl.mk s.a s.n s.c) (x_9+1) V) (Q (Value.tuple ⟨[.agg ⟨[.slice x.a x.n x.c]⟩,.slice x_8.a x_8.n x_8.c,.int .i64 0]⟩) V)) (Sl.mk a4.a a4.n a4.c,Sl.mk none (0:Nat) (0:Nat),(0:Int),()) V))))
def JB:AC:=(.seq qd (.seq (.seq qd (.cond none (.seq qd .leaf) .leaf)) (.seq (.seq qd (.cond none (.seq qd .leaf) .leaf)) (.seq (.seq qd (.cond none (.seq qd .leaf) .leaf)) (.seq qd (.seq (.seq (.reg ⟨(.fl 0 (.fl 2 (.fl 3 (.fl 4 (.fl 5 (.fl 8 (.alt 1 true false (.alt 6 false false (.fl 7 (.fl 9 .done)) .no) .no))))))),true,[],[],none⟩) (.cond none (.seq qd .leaf) .leaf)) (.seq qd (.seq qd (.seq qd (.seq (.seq qd (.block none (.loop ⟨([17]++rg 74 28),[(4,.sl),(15,.sl),(73,.int .i64)],[]⟩ (.seq qd (.seq (.cond none .leaf .leaf) (.seq (.block none (.seq qd (.seq (.reg ⟨(.fl 0 (.fl 1 (.fl 2 (.fl 3 (.fl 4 (.fl 5 (.fl 6 (.fl 7 (.fl 8 (.fl 9 (.fl 10 (.fl 11 (.fl 12 (.fl 13 (.fl 14 (.fl 15 (.alt 16 true false (.fl 17 (.alt 18 false false (.alt 19 false false (.fl 20 .done) .no) .no)) .no))))))))))))))))),true,[],[],none⟩) qd))) qd)))))) (.seq qd .leaf)))))))))))
theorem MP {a0_0:Sl} {a1:Int} {a2:Int} {a3:Int} {a4:Sl} {V:View} {Q:Value→View→Prop} (h:HC a0_0 a1 a2 a3 a4 V Q):af Tryz.prog 89 ⟨[(.agg ⟨[(.slice a0_0.a a0_0.n a0_0.c)]⟩),(.int .i64 a1),(.int .i64 a2),(.int .i64 a3),(.slice a4.a a4.n a4.c)]⟩ V Q:=
 obx false Tryz.f89 JB (by kernel_rfl) (by kernel_rfl) (by kernel_rfl) (by kernel_rfl) h
def HD (a0_0:Sl) (a1:Int) (a2:Int) (V:View) (Q:Value→View→Prop):Prop:=
 ∀(b b:Nat),V.see b=none→af Tryz.prog 133 ⟨[.agg ⟨[.slice a0_0.a a0_0.n a0_0.c]⟩,.int .i64 a1]⟩ (V.put b (Obj.cells ⟨[.slice none 0 0]⟩ (40:Nat))) fun r V=>∃x:Bool,r= .bool x∧br (bif !x then true else decide (a2<0)) (ay V (Addr.mk b 0 none) (1:Nat)∧∃x:Sl,aq (V.sets (Addr.mk b 0 none) [.slice none 0 0]) (Addr.mk b 0 none) [.slice x.a x.n x.c]∧Q (Value.tuple ⟨[.agg ⟨[.slice x.a x.n x.c]⟩,.slice none 0 0,.int .i64 1]⟩) (V.sets (Addr.mk b 0 none) [.slice none 0 0])) (br (decide (80<a2)) (ay V (Addr.mk b 0 none) (1:Nat)∧∃x:Sl,aq (V.sets (Addr.mk b 0 none) [.slice none 0 0]) (Addr.mk b 0 none) [.slice x.a x.n x.c]∧Q (Value.tuple ⟨[.agg ⟨[.slice x.a x.n x.c]⟩,.slice none 0 0,.int .i64 16]⟩) (V.sets (Addr.mk b 0 none) [.slice none 0 0])) (0≤a1∧a1<(a0_0.n:Int)∧∃ad:Addr,a0_0.a=some ad∧∃x x_1 x_2:Int,∃x_3 x_4:Sl,aq V (ad.add (a1.toNat*5)) [.int .i64 x,.int .i64 x_1,.int .i64 x_2,.slice x_3.a x_3.n x_3.c,.slice x_4.a x_4.n x_4.c]∧∀(b_1:Nat),af Tryz.prog 77 ⟨[.agg ⟨[.slice a0_0.a a0_0.n a0_0.c]⟩]⟩ V fun r V=>∃x:Sl,r= .agg ⟨[.slice x.a x.n x.c]⟩∧∀(b_2:Nat),0≤a1∧a1<(x.n:Int)∧∃ad:Addr,x.a=some ad∧ay V (Addr.add (ad.add (a1.toNat*5)) (2:Nat)) (nat_lit 1)∧aG [K.int .i64] (fun(x_5:Int) V J=>br (decide (x_5<5)) (inI .i64 (x_5*16)∧aA [] (fun J=>br (decide (a2≤x_5*16)) (0≤a1∧a1<(x.n:Int)∧∃ad:Addr,x.a=some ad∧∃x:Sl,V.cell? (Addr.add (ad.add (a1.toNat*5)) (3:Nat))=some (.slice x.a x.n x.c)∧0≤x_5∧x_5<(x.n:Int)∧∃ad:Addr,x.a=some ad∧ay V (ad.add (x_5.toNat*1)) (1:Nat)∧J (V.sets (ad.add (x_5.toNat*1)) [.int .i64 0])) (J V)) fun(V:View)=>inI .i64 (x_5+1)∧J (x_5+1) V) ((16:Int)≠0∧inI .i64 (Int.tdiv a2 (16:Int))∧aA [K.bool] (fun J=>br (decide (a2<x_2)) ((16:Int)≠0∧br (!decide (Int.tmod a2 (16:Int)=0)) (0≤Int.tdiv a2 (16:Int)∧Int.tdiv a2 16<(x_3.n:Int)∧∃ad:Addr,x_3.a=some ad∧∃x:Int,V.cell? (ad.add (Int.toNat (Int.tdiv a2 (16:Int))*1))=some (.int .i64 x)∧J (!decide (x=0)) V) (J false V)) (J false V)) fun x_6 V=>br x_6 (aA [K.sl,K.int .i64] (fun J=>True∧∃S:View,S.Le V∧0≤Int.tdiv a2 (16:Int)∧Int.tdiv a2 16<(x_3.n:Int)∧∃ad:Addr,x_3.a=some ad∧∃x_7:Int,S.cell? (ad.add (Int.toNat (Int.tdiv a2 (16:Int))*1))=some (.int .i64 x_7)∧(16:Int)≠0∧(b7 V (Obj.cells (Array.mk (bD [.int .i64 0,.int .i64 0,.int .i64 0,.int .i64 0,.int .i64 0,.slice none 0 0] (0:Nat) [.int .i64 a1,.int .i64 (Int.tdiv a2 (16:Int)),.int .i64 x_7,.int .i64 (Int.tmod a2 (16:Int)),.int .i64 0,.slice none 0 0])) (77:Nat)) fun r V=>S.Le V∧ay V (Addr.mk b 0 none) (nat_lit 1)∧S.Le (V.sets (Addr.mk b 0 none) [.slice x.a x.n x.c])∧J (Sl.mk (some (Addr.mk r 0 none)) (1:Nat) (1:Nat)) (0:Int) (V.sets (Addr.mk b 0 none) [.slice x.a x.n x.c]))∧ay V (Addr.mk b 0 none) (nat_lit 1)∧S.Le (V.sets (Addr.mk b 0 none) [.slice x.a x.n x.c])∧b7 (V.sets (Addr.mk b 0 none) [.slice x.a x.n x.c]) (Obj.cells (Array.mk (bD [.int .i64 0,.int .i64 0,.int .i64 0,.int .i64 0,.int .i64 0,.slice none 0 0] (0:Nat) [.int .i64 a1,.int .i64 (Int.tdiv a2 (16:Int)),.int .i64 x_7,.int .i64 (Int.tmod a2 (16:Int)),.int .i64 0,.slice none 0 0])) (77:Nat)) fun r V=>S.Le V∧J (Sl.mk (some (Addr.mk r 0 none)) (1:Nat) (1:Nat)) (0:Int) V) fun(x:Sl) (x_7:Int) (V:View)=>∃x_8:Sl,aq V (Addr.mk b 0 none) [.slice x_8.a x_8.n x_8.c]∧Q (Value.tuple ⟨[.agg ⟨[.slice x_8.a x_8.n x_8.c]⟩,.slice x.a x.n x.c,.int .i64 x_7]⟩) V) (ay V (Addr.mk b 0 none) (nat_lit 1)∧∃x_7:Sl,aq (V.sets (Addr.mk b 0 none) [.slice x.a x.n x.c]) (Addr.mk b 0 none) [.slice x_7.a x_7.n x_7.c]∧Q (Value.tuple ⟨[.agg ⟨[.slice x_7.a x_7.n x_7.c]⟩,.slice none 0 0,.int .i64 0]⟩) (V.sets (Addr.mk b 0 none) [.slice x.a x.n x.c])))) ((0:Int),()) (V.sets (Addr.add (ad.add (a1.toNat*5)) (2:Nat)) [.int .i64 a2])))
def JC:AC:=(.seq (.reg ⟨.done,false,[(2,1)],[],none⟩) (.seq (.seq qd (.cond none (.seq qd .leaf) .leaf)) (.seq (.seq qd (.cond none (.seq qd .leaf) .leaf)) (.seq qd (.seq qd (.seq qd (.seq (.seq qd (.block none (.loop ⟨([11]++rg 39 15),[(38,.int .i64)],[]⟩ (.seq qd (.seq (.cond none .leaf .leaf) (.seq (.block none (.seq qd (.seq qd (.cond (some ⟨(rg 45 8),[],[]⟩) qd .leaf)))) qd)))))) (.seq (.seq qd (.seq (.reg ⟨.done,false,[],[],(some ⟨(rg 56 16),[(72,.bool)],[]⟩)⟩) (.cond none (.seq (.reg ⟨(.fl 0 (.fl 1 (.fl 2 (.fl 3 (.fl 4 (.fl 5 (.fl 6 (.fl 7 (.fl 8 (.fl 9 (.fl 10 (.alt 11 true false (.alt 12 true false (.fl 13 (.fl 14 .done)) .no) (.alt 12 true false (.alt 11 true false (.fl 13 (.fl 14 .done)) .no) .no))))))))))))),true,[],[],(some ⟨(rg 73 12),[(7,.sl),(8,.int .i64)],[]⟩)⟩) .leaf) .leaf))) (.seq qd .leaf)))))))))
theorem MQ {a0_0:Sl} {a1:Int} {a2:Int} {V:View} {Q:Value→View→Prop} (h:HD a0_0 a1 a2 V Q):af Tryz.prog 90 ⟨[(.agg ⟨[(.slice a0_0.a a0_0.n a0_0.c)]⟩),(.int .i64 a1),(.int .i64 a2)]⟩ V Q:=
 obx false Tryz.f90 JC (by kernel_rfl) (by kernel_rfl) (by kernel_rfl) (by kernel_rfl) h
def HE (a0:Option Addr) (a1_0:Sl) (a2:Sl) (V:View) (Q:Value→View→Prop):Prop:=
 ∀(b:Nat),aG [K.sl,K.sl,K.int .i64] (fun(x x_1:Sl) (x_2:Int) (V:View) (J:c7 [K.sl,K.sl,K.int .i64])=>br (decide (x_2<(a2.n:Int))) (0≤x_2∧x_2<(a2.n:Int)∧∃ad:Addr,a2.a=some ad∧∃x_3 x_4 x_5 x_6 x_7:Int,∃x_8:Sl,aq V (ad.add (x_2.toNat*6)) [.int .i64 x_3,.int .i64 x_4,.int .i64 x_5,.int .i64 x_6,.int .i64 x_7,.slice x_8.a x_8.n x_8.c]∧∀(b:Nat),True∧∃S:View,S.Le V∧af Tryz.prog 58 ⟨[.pointer a0,.int .i64 x_3,.int .i64 x_4]⟩ V fun r V=>∃x_9:Sl,r= .slice x_9.a x_9.n x_9.c∧S.Le V∧af Tryz.prog 138 ⟨[.slice x_9.a x_9.n x_9.c,.agg ⟨[.int .i64 x_3,.int .i64 x_4,.int .i64 x_5,.int .i64 x_6,.int .i64 x_7,.slice x_8.a x_8.n x_8.c]⟩]⟩ V fun r V=>∃x_10:Sl,r= .slice x_10.a x_10.n x_10.c∧b7 V (Obj.cells (Array.mk (bD [.slice none 0 0] (0:Nat) [.slice x_10.a x_10.n x_10.c])) (23:Nat)) fun r V=>apV V (23:Nat) (1:Nat) (24:Nat) [.slice none 0 0] (Sl.mk x_1.a x_1.n x_1.c) (.slice (some (Addr.mk r 0 none)) (1:Nat) (1:Nat)) fun s V=>∃a:Addr,a0=some a∧∃x_11:Int,V.cell? (a.add (3:Nat))=some (.int .i64 x_11)∧inI .i64 (x_11+1)∧∃a:Addr,a0=some a∧ay V (a.add (3:Nat)) (nat_lit 1)∧∃a_1:Addr,a0=some a_1∧∃x_12:Int,View.cell? (V.sets (a.add (3:Nat)) [.int .i64 (x_11+1)]) (a_1.add (3:Nat))=some (.int .i64 x_12)∧b7 (V.sets (a.add (3:Nat)) [.int .i64 (x_11+1)]) (Obj.cells (Array.mk (bD [.int .i64 0] (0:Nat) [.int .i64 x_12])) (3:Nat)) fun r V=>apV V (3:Nat) (1:Nat) (8:Nat) [.int .i64 0] (Sl.mk x.a x.n x.c) (.slice (some (Addr.mk r 0 none)) (1:Nat) (1:Nat)) fun s_1 V=>inI .i64 (x_2+1)∧J (Sl.mk s_1.a s_1.n s_1.c) (Sl.mk s.a s.n s.c) (x_2+1) V) (af Tryz.prog 139 ⟨[.agg ⟨[.slice a1_0.a a1_0.n a1_0.c]⟩,.slice a2.a a2.n a2.c,.slice x.a x.n x.c]⟩ V fun r V=>∃x:Sl,∃x_3:Int,r=Value.tuple ⟨[.agg ⟨[.slice x.a x.n x.c]⟩,.int .i64 x_3]⟩∧∃a:Addr,a0=some a∧ay V (a.add (1:Nat)) (nat_lit 1)∧aG [K.int .i64] (fun(x:Int) V J=>br (decide (x<(a2.n:Int))) (0≤x∧x<(a2.n:Int)∧∃ad:Addr,a2.a=some ad∧∃x_4 x_5 x_6 x_7 x_8:Int,∃x_9:Sl,aq V (ad.add (x.toNat*6)) [.int .i64 x_4,.int .i64 x_5,.int .i64 x_6,.int .i64 x_7,.int .i64 x_8,.slice x_9.a x_9.n x_9.c]∧∀(b:Nat),True∧∃S:View,S.Le V∧0≤x∧x<(x_1.n:Int)∧∃ad:Addr,x_1.a=some ad∧∃x_10:Sl,S.cell? (ad.add (x.toNat*1))=some (.slice x_10.a x_10.n x_10.c)∧∃a:Addr,a0=some a∧0≤x_4∧x_4<(↑(12:Nat):Int)∧0≤x_5∧x_5<(↑(5:Nat):Int)∧ay V (Addr.add (Addr.add (a.add (4:Nat)) (x_4.toNat*5)) (x_5.toNat*1)) (nat_lit 1)∧inI .i64 (x+1)∧J (x+1) (V.sets (Addr.add (Addr.add (a.add (4:Nat)) (x_4.toNat*5)) (x_5.toNat*1)) [.slice x_10.a x_10.n x_10.c])) (Q (Value.tuple ⟨[]⟩) V)) ((0:Int),()) (V.sets (a.add (1:Nat)) [.slice x.a x.n x.c]))) (Sl.mk none (0:Nat) (0:Nat),Sl.mk none (0:Nat) (0:Nat),(0:Int),()) V
def JD:AC:=(.seq qd (.seq qd (.seq qd (.seq (.seq qd (.block none (.loop ⟨([9]++rg 15 29),[(6,.sl),(7,.sl),(14,.int .i64)],[]⟩ (.seq qd (.seq (.cond none .leaf .leaf) (.seq (.block none (.seq qd (.seq (.reg ⟨(.fl 0 (.fl 1 (.fl 2 (.fl 3 (.fl 4 (.fl 5 (.fl 7 (.alt 6 true false (.alt 8 false false (.alt 9 false false (.alt 10 false false (.fl 11 .done) .no) .no) .no) .no)))))))),true,[],[],none⟩) (.seq qd qd)))) qd)))))) (.seq qd (.seq qd (.block none (.loop ⟨([10,11]++rg 57 18),[(56,.int .i64)],[]⟩ (.seq qd (.seq (.cond none .leaf .leaf) (.seq (.block none (.seq qd (.reg ⟨(.fl 0 (.fl 1 (.fl 2 (.fl 3 (.fl 4 (.fl 5 (.fl 6 (.fl 7 (.fl 8 (.fl 9 (.fl 10 (.fl 11 (.fl 12 (.alt 13 false false .done .no)))))))))))))),true,[],[],none⟩))) qd)))))))))))
theorem MR {a0:Option Addr} {a1_0:Sl} {a2:Sl} {V:View} {Q:Value→View→Prop} (h:HE a0 a1_0 a2 V Q):af Tryz.prog 91 ⟨[(.pointer a0),(.agg ⟨[(.slice a1_0.a a1_0.n a1_0.c)]⟩),(.slice a2.a a2.n a2.c)]⟩ V Q:=
 obx false Tryz.f91 JD (by kernel_rfl) (by kernel_rfl) (by kernel_rfl) (by kernel_rfl) h
def HF (a0:Int) (a1:Int) (V:View) (Q:Value→View→Prop):Prop:=
 aA [K.bool] (fun J=>br (bif bif decide (0≤a0)then decide (a0≤80)else false then decide (0≤a1)else false) (inI .i64 ((80:Int)-a0)∧J (decide (a1≤80-a0)) V) (J false V)) fun x V=>Q (.bool x) V
def JE:AC:=(.seq qd (.seq (.reg ⟨.done,false,[],[],(some ⟨(rg 5 16),[(4,.bool)],[]⟩)⟩) .leaf))
theorem MS {a0:Int} {a1:Int} {V:View} {Q:Value→View→Prop} (h:HF a0 a1 V Q):af Tryz.prog 92 ⟨[(.int .i64 a0),(.int .i64 a1)]⟩ V Q:=
 obx false Tryz.f92 JE (by kernel_rfl) (by kernel_rfl) (by kernel_rfl) (by kernel_rfl) h
def HG (a0:Int) (a1:Int) (V:View) (Q:Value→View→Prop):Prop:=
 af Tryz.prog 141 ⟨[.int .u64 a0,.int .u64 a1]⟩ V fun r V=>∃x x_1:Int,r=Value.tuple ⟨[.int .u64 x,.int .u64 x_1]⟩∧Q (Value.tuple ⟨[.int .u64 x,.int .u64 x_1]⟩) V
def JF:AC:=(.seq qd (.seq (.cond none (.seq qd (.seq qd .leaf)) .leaf) (.seq qd (.seq qd .leaf))))
theorem MU {a0:Int} {a1:Int} {V:View} {Q:Value→View→Prop} (h:HG a0 a1 V Q):af Tryz.prog 94 ⟨[(.int .u64 a0),(.int .u64 a1)]⟩ V Q:=
 obx false Tryz.f94 JF (by kernel_rfl) (by kernel_rfl) (by kernel_rfl) (by kernel_rfl) h
def HH (a0:Sl) (V:View) (Q:Value→View→Prop):Prop:=
 af Tryz.prog 142 ⟨[.slice a0.a a0.n a0.c]⟩ V fun r V=>∃x:Bool,r= .bool x∧br x (Q (.slice none 0 0) V) ((0:Int)≤12∧(12:Int)≤12∧(12:Int)*(↑(TypeInfo.bytes (Tables.types (Program.toTables Tryz.prog))[(4:Nat)]):Int)≤140737488355328∧(12:Int)≤140737488355328∧b7 V (Obj.cells (Array.mk (List.flatten (List.replicate (12:Nat) [.bool false]))) (4:Nat)) fun r V=>aG [K.int .i64] (fun(x:Int) V J=>br (decide (x<(a0.n:Int))) (0≤x∧x<(a0.n:Int)∧∃ad:Addr,a0.a=some ad∧∃x_1:Int,V.cell? (ad.add (x.toNat*1))=some (.int .i64 x_1)∧aA [] (fun J=>br (!decide (x_1=(-1:Int))) (0≤x_1∧x_1<(↑(Int.toNat (12:Int)):Int)∧∃ad:Addr,some (Addr.mk r 0 none)=some ad∧ay V (ad.add (x_1.toNat*1)) (1:Nat)∧J (V.sets (ad.add (x_1.toNat*1)) [.bool true])) (J V)) fun(V:View)=>inI .i64 (x+1)∧J (x+1) V) (Q (.slice (some (Addr.mk r 0 none)) (12:Nat) (12:Nat)) V)) ((0:Int),()) V)
def JG:AC:=(.seq qd (.seq (.seq qd (.cond none (.seq qd .leaf) .leaf)) (.seq qd (.seq (.seq qd (.block none (.loop ⟨([5]++rg 12 9),[(11,.int .i64)],[]⟩ (.seq qd (.seq (.cond none .leaf .leaf) (.seq (.block none (.seq qd (.seq qd (.cond (some ⟨[17,18,19],[],[]⟩) qd .leaf)))) qd)))))) (.seq qd .leaf)))))
theorem MV {a0:Sl} {V:View} {Q:Value→View→Prop} (h:HH a0 V Q):af Tryz.prog 95 ⟨[(.slice a0.a a0.n a0.c)]⟩ V Q:=
 obx false Tryz.f95 JG (by kernel_rfl) (by kernel_rfl) (by kernel_rfl) (by kernel_rfl) h
def HI (a0_0:Sl) (a1:ByteArray) (V:View) (Q:Value→View→Prop):Prop:=
 ∀(b b:Nat),af Tryz.prog 143 ⟨[.agg ⟨[.slice a0_0.a a0_0.n a0_0.c]⟩,.string a1,.int .i64 1]⟩ V fun r V=>∃x:Sl,∃x_1:Int,r=Value.tuple ⟨[.agg ⟨[.slice x.a x.n x.c]⟩,.int .i64 x_1]⟩∧Q (Value.tuple ⟨[.agg ⟨[.slice x.a x.n x.c]⟩,.int .i64 x_1]⟩) V
def JH:AC:=(.seq qd (.seq qd .leaf))
theorem MW {a0_0:Sl} {a1:ByteArray} {V:View} {Q:Value→View→Prop} (h:HI a0_0 a1 V Q):af Tryz.prog 96 ⟨[(.agg ⟨[(.slice a0_0.a a0_0.n a0_0.c)]⟩),(.string a1)]⟩ V Q:=
 obx false Tryz.f96 JH (by kernel_rfl) (by kernel_rfl) (by kernel_rfl) (by kernel_rfl) h
def HJ (a0_0:Sl) (a1:ByteArray) (V:View) (Q:Value→View→Prop):Prop:=
 ∀(b b:Nat),af Tryz.prog 143 ⟨[.agg ⟨[.slice a0_0.a a0_0.n a0_0.c]⟩,.string a1,.int .i64 2]⟩ V fun r V=>∃x:Sl,∃x_1:Int,r=Value.tuple ⟨[.agg ⟨[.slice x.a x.n x.c]⟩,.int .i64 x_1]⟩∧Q (Value.tuple ⟨[.agg ⟨[.slice x.a x.n x.c]⟩,.int .i64 x_1]⟩) V
def JI:AC:=(.seq qd (.seq qd .leaf))
theorem MX {a0_0:Sl} {a1:ByteArray} {V:View} {Q:Value→View→Prop} (h:HJ a0_0 a1 V Q):af Tryz.prog 97 ⟨[(.agg ⟨[(.slice a0_0.a a0_0.n a0_0.c)]⟩),(.string a1)]⟩ V Q:=
 obx false Tryz.f97 JI (by kernel_rfl) (by kernel_rfl) (by kernel_rfl) (by kernel_rfl) h
def HK (a0_0:Sl) (a1:ByteArray) (a2:Sl) (V:View) (Q:Value→View→Prop):Prop:=
 ∀(b b:Nat),af Tryz.prog 144 ⟨[.agg ⟨[.slice a0_0.a a0_0.n a0_0.c]⟩,.string a1]⟩ V fun r V=>∃x:Int,∃x_1:ByteArray,∃x_2 x_3:Int,r=Value.tuple ⟨[.agg ⟨[.int .i64 x,.string x_1,.int .i64 x_2]⟩,.int .i64 x_3]⟩∧∀(b:Nat),br (!decide (x_3=0)) (af Tryz.prog 76 ⟨[.int .i64 x_3]⟩ V fun r V=>∃x:Sl,∃x_4:Int,r=Value.tuple ⟨[.agg ⟨[.slice x.a x.n x.c]⟩,.int .i64 x_4]⟩∧Q (Value.tuple ⟨[.agg ⟨[.slice x.a x.n x.c]⟩,.int .i64 x_4]⟩) V) (0≤x_2∧x_2<(a0_0.n:Int)∧∃ad:Addr,a0_0.a=some ad∧∃x_4:Int,V.cell? (Addr.add (ad.add (x_2.toNat*5)) (0:Nat))=some (.int .i64 x_4)∧br (decide (x_4=2)) (af Tryz.prog 76 ⟨[.int .i64 10]⟩ V fun r V=>∃x:Sl,∃x_5:Int,r=Value.tuple ⟨[.agg ⟨[.slice x.a x.n x.c]⟩,.int .i64 x_5]⟩∧Q (Value.tuple ⟨[.agg ⟨[.slice x.a x.n x.c]⟩,.int .i64 x_5]⟩) V) (af Tryz.prog 38 ⟨[.agg ⟨[.slice a0_0.a a0_0.n a0_0.c]⟩]⟩ V fun r V=>∃x_5:Sl,r= .agg ⟨[.slice x_5.a x_5.n x_5.c]⟩∧∀(b:Nat),V.see b=none→ay (V.put b (Obj.cells ⟨[.slice none 0 0]⟩ (40:Nat))) (Addr.mk b 0 none) (nat_lit 1)∧af Tryz.prog 145 ⟨[.pointer (some (Addr.mk b 0 none)),.agg ⟨[.int .i64 x,.string x_1,.int .i64 x_2]⟩]⟩ (View.sets (V.put b (Obj.cells ⟨[.slice none 0 0]⟩ (40:Nat))) (Addr.mk b 0 none) [.slice x_5.a x_5.n x_5.c]) fun r V=>r=Value.tuple ⟨[]⟩∧af Tryz.prog 146 ⟨[.pointer (some (Addr.mk b 0 none)),.int .i64 x_2,.slice a2.a a2.n a2.c]⟩ V fun r V=>r=Value.tuple ⟨[]⟩∧∃x:Sl,aq V (Addr.mk b 0 none) [.slice x.a x.n x.c]∧Q (Value.tuple ⟨[.agg ⟨[.slice x.a x.n x.c]⟩,.int .i64 0]⟩) V))
def JJ:AC:=(.seq qd (.seq qd (.seq (.block none (.seq qd (.cond none (.seq qd .leaf) (.seq qd (.cond none (.seq qd .leaf) .leaf))))) (.seq (.reg ⟨.done,false,[(3,3)],[],none⟩) (.seq qd (.seq qd (.seq qd .leaf)))))))
theorem MY {a0_0:Sl} {a1:ByteArray} {a2:Sl} {V:View} {Q:Value→View→Prop} (h:HK a0_0 a1 a2 V Q):af Tryz.prog 98 ⟨[(.agg ⟨[(.slice a0_0.a a0_0.n a0_0.c)]⟩),(.string a1),(.slice a2.a a2.n a2.c)]⟩ V Q:=
 obx false Tryz.f98 JJ (by kernel_rfl) (by kernel_rfl) (by kernel_rfl) (by kernel_rfl) h
def HL (a0_0:Sl) (a1:ByteArray) (V:View) (Q:Value→View→Prop):Prop:=
 ∀(b b:Nat),af Tryz.prog 144 ⟨[.agg ⟨[.slice a0_0.a a0_0.n a0_0.c]⟩,.string a1]⟩ V fun r V=>∃x:Int,∃x_1:ByteArray,∃x_2 x_3:Int,r=Value.tuple ⟨[.agg ⟨[.int .i64 x,.string x_1,.int .i64 x_2]⟩,.int .i64 x_3]⟩∧∀(b:Nat),br (!decide (x_3=0)) (af Tryz.prog 76 ⟨[.int .i64 x_3]⟩ V fun r V=>∃x:Sl,∃x_4:Int,r=Value.tuple ⟨[.agg ⟨[.slice x.a x.n x.c]⟩,.int .i64 x_4]⟩∧Q (Value.tuple ⟨[.agg ⟨[.slice x.a x.n x.c]⟩,.int .i64 x_4]⟩) V) (0≤x_2∧x_2<(a0_0.n:Int)∧∃ad:Addr,a0_0.a=some ad∧∃x_4:Int,V.cell? (Addr.add (ad.add (x_2.toNat*5)) (0:Nat))=some (.int .i64 x_4)∧br (!decide (x_4=2)) (af Tryz.prog 76 ⟨[.int .i64 11]⟩ V fun r V=>∃x:Sl,∃x_5:Int,r=Value.tuple ⟨[.agg ⟨[.slice x.a x.n x.c]⟩,.int .i64 x_5]⟩∧Q (Value.tuple ⟨[.agg ⟨[.slice x.a x.n x.c]⟩,.int .i64 x_5]⟩) V) (0≤x_2∧x_2<(a0_0.n:Int)∧∃ad:Addr,a0_0.a=some ad∧∃x_5:Sl,V.cell? (Addr.add (ad.add (x_2.toNat*5)) (4:Nat))=some (.slice x_5.a x_5.n x_5.c)∧br (decide (0<(x_5.n:Int))) (af Tryz.prog 76 ⟨[.int .i64 12]⟩ V fun r V=>∃x:Sl,∃x_6:Int,r=Value.tuple ⟨[.agg ⟨[.slice x.a x.n x.c]⟩,.int .i64 x_6]⟩∧Q (Value.tuple ⟨[.agg ⟨[.slice x.a x.n x.c]⟩,.int .i64 x_6]⟩) V) (af Tryz.prog 38 ⟨[.agg ⟨[.slice a0_0.a a0_0.n a0_0.c]⟩]⟩ V fun r V=>∃x_6:Sl,r= .agg ⟨[.slice x_6.a x_6.n x_6.c]⟩∧∀(b:Nat),V.see b=none→ay (V.put b (Obj.cells ⟨[.slice none 0 0]⟩ (40:Nat))) (Addr.mk b 0 none) (nat_lit 1)∧af Tryz.prog 145 ⟨[.pointer (some (Addr.mk b 0 none)),.agg ⟨[.int .i64 x,.string x_1,.int .i64 x_2]⟩]⟩ (View.sets (V.put b (Obj.cells ⟨[.slice none 0 0]⟩ (40:Nat))) (Addr.mk b 0 none) [.slice x_6.a x_6.n x_6.c]) fun r V=>r=Value.tuple ⟨[]⟩∧af Tryz.prog 146 ⟨[.pointer (some (Addr.mk b 0 none)),.int .i64 x_2,.slice none 0 0]⟩ V fun r V=>r=Value.tuple ⟨[]⟩∧∃x:Sl,aq V (Addr.mk b 0 none) [.slice x.a x.n x.c]∧Q (Value.tuple ⟨[.agg ⟨[.slice x.a x.n x.c]⟩,.int .i64 0]⟩) V)))
def JK:AC:=(.seq qd (.seq qd (.seq (.block none (.seq qd (.cond none (.seq qd .leaf) (.seq qd (.cond none (.seq qd .leaf) (.seq qd (.cond none (.seq qd .leaf) .leaf))))))) (.seq (.reg ⟨.done,false,[(3,3)],[],none⟩) (.seq qd (.seq qd (.seq qd .leaf)))))))
theorem MZ {a0_0:Sl} {a1:ByteArray} {V:View} {Q:Value→View→Prop} (h:HL a0_0 a1 V Q):af Tryz.prog 99 ⟨[(.agg ⟨[(.slice a0_0.a a0_0.n a0_0.c)]⟩),(.string a1)]⟩ V Q:=
 obx false Tryz.f99 JK (by kernel_rfl) (by kernel_rfl) (by kernel_rfl) (by kernel_rfl) h
def Bu (a0_0:Sl) (a1:ByteArray) (a2:ByteArray) (a3:Sl) (V:View) (Q:Value→View→Prop):Prop:=
 ∀(b b:Nat),af Tryz.prog 144 ⟨[.agg ⟨[.slice a0_0.a a0_0.n a0_0.c]⟩,.string a1]⟩ V fun r V=>∃x:Int,∃x_1:ByteArray,∃x_2 x_3:Int,r=Value.tuple ⟨[.agg ⟨[.int .i64 x,.string x_1,.int .i64 x_2]⟩,.int .i64 x_3]⟩∧∀(b:Nat),br (!decide (x_3=0)) (af Tryz.prog 76 ⟨[.int .i64 x_3]⟩ V fun r V=>∃x:Sl,∃x_4:Int,r=Value.tuple ⟨[.agg ⟨[.slice x.a x.n x.c]⟩,.int .i64 x_4]⟩∧Q (Value.tuple ⟨[.agg ⟨[.slice x.a x.n x.c]⟩,.int .i64 x_4]⟩) V) (af Tryz.prog 147 ⟨[.agg ⟨[.slice a0_0.a a0_0.n a0_0.c]⟩,.string a2]⟩ V fun r V=>∃x_4:Int,∃x_5:ByteArray,∃x_6 x_7:Int,r=Value.tuple ⟨[.agg ⟨[.int .i64 x_4,.string x_5,.int .i64 x_6]⟩,.int .i64 x_7]⟩∧∀(b:Nat),br (!decide (x_7=0)) (af Tryz.prog 76 ⟨[.int .i64 x_7]⟩ V fun r V=>∃x:Sl,∃x_8:Int,r=Value.tuple ⟨[.agg ⟨[.slice x.a x.n x.c]⟩,.int .i64 x_8]⟩∧Q (Value.tuple ⟨[.agg ⟨[.slice x.a x.n x.c]⟩,.int .i64 x_8]⟩) V) (br (decide (x_6=x_2)) (af Tryz.prog 38 ⟨[.agg ⟨[.slice a0_0.a a0_0.n a0_0.c]⟩]⟩ V fun r V=>∃x:Sl,r= .agg ⟨[.slice x.a x.n x.c]⟩∧Q (Value.tuple ⟨[.agg ⟨[.slice x.a x.n x.c]⟩,.int .i64 0]⟩) V) (af Tryz.prog 148 ⟨[.agg ⟨[.slice a0_0.a a0_0.n a0_0.c]⟩,.int .i64 x_2,.int .i64 x_4]⟩ V fun r V=>∃x_8:Bool,r= .bool x_8∧br x_8 (af Tryz.prog 76 ⟨[.int .i64 17]⟩ V fun r V=>∃x:Sl,∃x_9:Int,r=Value.tuple ⟨[.agg ⟨[.slice x.a x.n x.c]⟩,.int .i64 x_9]⟩∧Q (Value.tuple ⟨[.agg ⟨[.slice x.a x.n x.c]⟩,.int .i64 x_9]⟩) V) (af Tryz.prog 38 ⟨[.agg ⟨[.slice a0_0.a a0_0.n a0_0.c]⟩]⟩ V fun r V=>∃x_9:Sl,r= .agg ⟨[.slice x_9.a x_9.n x_9.c]⟩∧∀(b:Nat),V.see b=none→ay (V.put b (Obj.cells ⟨[.slice none 0 0]⟩ (40:Nat))) (Addr.mk b 0 none) (nat_lit 1)∧af Tryz.prog 145 ⟨[.pointer (some (Addr.mk b 0 none)),.agg ⟨[.int .i64 x,.string x_1,.int .i64 x_2]⟩]⟩ (View.sets (V.put b (Obj.cells ⟨[.slice none 0 0]⟩ (40:Nat))) (Addr.mk b 0 none) [.slice x_9.a x_9.n x_9.c]) fun r V=>r=Value.tuple ⟨[]⟩∧aA [] (fun J=>br (decide (0≤x_6)) (True∧∃S:View,S.Le V∧0≤x_2∧x_2<(a0_0.n:Int)∧∃ad:Addr,a0_0.a=some ad∧∃x x_10 x_11:Int,∃x_12 x_13:Sl,aq S (ad.add (x_2.toNat*5)) [.int .i64 x,.int .i64 x_10,.int .i64 x_11,.slice x_12.a x_12.n x_12.c,.slice x_13.a x_13.n x_13.c]∧0≤x_6∧x_6<(a0_0.n:Int)∧∃ad:Addr,a0_0.a=some ad∧∃x_14 x_15 x_16:Int,∃x_17 x_18:Sl,aq S (ad.add (x_6.toNat*5)) [.int .i64 x_14,.int .i64 x_15,.int .i64 x_16,.slice x_17.a x_17.n x_17.c,.slice x_18.a x_18.n x_18.c]∧af Tryz.prog 149 ⟨[.agg ⟨[.int .i64 x,.int .i64 x_10,.int .i64 x_11,.slice x_12.a x_12.n x_12.c,.slice x_13.a x_13.n x_13.c]⟩,.agg ⟨[.int .i64 x_14,.int .i64 x_15,.int .i64 x_16,.slice x_17.a x_17.n x_17.c,.slice x_18.a x_18.n x_18.c]⟩]⟩ V fun r V=>∃x:Int,r= .int .i64 x∧br (!decide (x=0)) (af Tryz.prog 76 ⟨[.int .i64 x]⟩ V fun r V=>∃x:Sl,∃x_19:Int,r=Value.tuple ⟨[.agg ⟨[.slice x.a x.n x.c]⟩,.int .i64 x_19]⟩∧Q (Value.tuple ⟨[.agg ⟨[.slice x.a x.n x.c]⟩,.int .i64 x_19]⟩) V) (af Tryz.prog 145 ⟨[.pointer (some (Addr.mk b 0 none)),.agg ⟨[.int .i64 x_4,.string x_5,.int .i64 x_6]⟩]⟩ V fun r V=>r=Value.tuple ⟨[]⟩∧af Tryz.prog 146 ⟨[.pointer (some (Addr.mk b 0 none)),.int .i64 x_6,.slice a3.a a3.n a3.c]⟩ V fun r V=>r=Value.tuple ⟨[]⟩∧J V)) (J V)) fun(V:View)=>af Tryz.prog 150 ⟨[.pointer (some (Addr.mk b 0 none)),.agg ⟨[.int .i64 x_4,.string x_5,.int .i64 x_6]⟩,.int .i64 x_2]⟩ V fun r V=>∃x:Int,r= .int .i64 x∧br (!decide (x=0)) (af Tryz.prog 76 ⟨[.int .i64 x]⟩ V fun r V=>∃x:Sl,∃x_10:Int,r=Value.tuple ⟨[.agg ⟨[.slice x.a x.n x.c]⟩,.int .i64 x_10]⟩∧Q (Value.tuple ⟨[.agg ⟨[.slice x.a x.n x.c]⟩,.int .i64 x_10]⟩) V) (∃x:Sl,aq V (Addr.mk b 0 none) [.slice x.a x.n x.c]∧Q (Value.tuple ⟨[.agg ⟨[.slice x.a x.n x.c]⟩,.int .i64 0]⟩) V)))))
def D4:AC:=(.seq qd (.seq qd (.seq (.seq qd (.cond none (.seq qd .leaf) .leaf)) (.seq qd (.seq (.block none (.seq qd (.cond none (.seq qd .leaf) (.seq qd (.cond none (.seq qd .leaf) (.seq qd (.cond none (.seq qd .leaf) .leaf))))))) (.seq (.reg ⟨.done,false,[(3,4)],[],none⟩) (.seq qd (.seq (.seq qd (.cond (some ⟨([14]++rg 66 15++rg 85 6),[],[]⟩) (.seq (.seq (.reg ⟨(.fl 0 (.fl 1 (.fl 2 (.fl 3 (.fl 4 (.fl 5 (.fl 6 (.fl 7 (.fl 8 (.fl 9 (.fl 10 (.fl 11 (.alt 12 false false (.fl 13 .done) .no))))))))))))),true,[],[],none⟩) (.seq qd (.cond none (.seq qd .leaf) .leaf))) (.seq qd qd)) .leaf)) (.seq (.seq qd (.seq qd (.cond none (.seq qd .leaf) .leaf))) (.seq qd .leaf))))))))))
theorem JL {a0_0:Sl} {a1:ByteArray} {a2:ByteArray} {a3:Sl} {V:View} {Q:Value→View→Prop} (h:Bu a0_0 a1 a2 a3 V Q):af Tryz.prog 100 ⟨[(.agg ⟨[(.slice a0_0.a a0_0.n a0_0.c)]⟩),(.string a1),(.string a2),(.slice a3.a a3.n a3.c)]⟩ V Q:=
 obx false Tryz.f100 D4 (by kernel_rfl) (by kernel_rfl) (by kernel_rfl) (by kernel_rfl) h
def Bv (a0_0:Sl) (a1:ByteArray) (a2:ByteArray) (V:View) (Q:Value→View→Prop):Prop:=
 ∀(b b:Nat),af Tryz.prog 102 ⟨[.agg ⟨[.slice a0_0.a a0_0.n a0_0.c]⟩,.string a1]⟩ V fun r V=>∃x x_1:Int,r=Value.tuple ⟨[.int .i64 x,.int .i64 x_1]⟩∧br (!decide (x_1=0)) (af Tryz.prog 76 ⟨[.int .i64 x_1]⟩ V fun r V=>∃x:Sl,∃x_2:Int,r=Value.tuple ⟨[.agg ⟨[.slice x.a x.n x.c]⟩,.int .i64 x_2]⟩∧Q (Value.tuple ⟨[.agg ⟨[.slice x.a x.n x.c]⟩,.int .i64 x_2]⟩) V) (0≤x∧x<(a0_0.n:Int)∧∃ad:Addr,a0_0.a=some ad∧∃x_2:Int,V.cell? (Addr.add (ad.add (x.toNat*5)) (0:Nat))=some (.int .i64 x_2)∧br (decide (x_2=2)) (af Tryz.prog 76 ⟨[.int .i64 10]⟩ V fun r V=>∃x:Sl,∃x_3:Int,r=Value.tuple ⟨[.agg ⟨[.slice x.a x.n x.c]⟩,.int .i64 x_3]⟩∧Q (Value.tuple ⟨[.agg ⟨[.slice x.a x.n x.c]⟩,.int .i64 x_3]⟩) V) (af Tryz.prog 147 ⟨[.agg ⟨[.slice a0_0.a a0_0.n a0_0.c]⟩,.string a2]⟩ V fun r V=>∃x_3:Int,∃x_4:ByteArray,∃x_5 x_6:Int,r=Value.tuple ⟨[.agg ⟨[.int .i64 x_3,.string x_4,.int .i64 x_5]⟩,.int .i64 x_6]⟩∧∀(b:Nat),br (!decide (x_6=0)) (af Tryz.prog 76 ⟨[.int .i64 x_6]⟩ V fun r V=>∃x:Sl,∃x_7:Int,r=Value.tuple ⟨[.agg ⟨[.slice x.a x.n x.c]⟩,.int .i64 x_7]⟩∧Q (Value.tuple ⟨[.agg ⟨[.slice x.a x.n x.c]⟩,.int .i64 x_7]⟩) V) (br (decide (0≤x_5)) (af Tryz.prog 76 ⟨[.int .i64 9]⟩ V fun r V=>∃x:Sl,∃x_7:Int,r=Value.tuple ⟨[.agg ⟨[.slice x.a x.n x.c]⟩,.int .i64 x_7]⟩∧Q (Value.tuple ⟨[.agg ⟨[.slice x.a x.n x.c]⟩,.int .i64 x_7]⟩) V) (af Tryz.prog 38 ⟨[.agg ⟨[.slice a0_0.a a0_0.n a0_0.c]⟩]⟩ V fun r V=>∃x_7:Sl,r= .agg ⟨[.slice x_7.a x_7.n x_7.c]⟩∧∀(b:Nat),V.see b=none→ay (V.put b (Obj.cells ⟨[.slice none 0 0]⟩ (40:Nat))) (Addr.mk b 0 none) (nat_lit 1)∧af Tryz.prog 150 ⟨[.pointer (some (Addr.mk b 0 none)),.agg ⟨[.int .i64 x_3,.string x_4,.int .i64 x_5]⟩,.int .i64 x]⟩ (View.sets (V.put b (Obj.cells ⟨[.slice none 0 0]⟩ (40:Nat))) (Addr.mk b 0 none) [.slice x_7.a x_7.n x_7.c]) fun r V=>∃x_8:Int,r= .int .i64 x_8∧br (!decide (x_8=0)) (af Tryz.prog 76 ⟨[.int .i64 x_8]⟩ V fun r V=>∃x:Sl,∃x_9:Int,r=Value.tuple ⟨[.agg ⟨[.slice x.a x.n x.c]⟩,.int .i64 x_9]⟩∧Q (Value.tuple ⟨[.agg ⟨[.slice x.a x.n x.c]⟩,.int .i64 x_9]⟩) V) (∃x_9:Sl,V.cell? (Addr.mk b 0 none)=some (.slice x_9.a x_9.n x_9.c)∧0≤x∧x<(x_9.n:Int)∧∃ad:Addr,x_9.a=some ad∧∃x_10:Int,V.cell? (Addr.add (ad.add (x.toNat*5)) (1:Nat))=some (.int .i64 x_10)∧inI .i64 (x_10+1)∧0≤x∧x<(x_9.n:Int)∧∃ad:Addr,x_9.a=some ad∧ay V (Addr.add (ad.add (x.toNat*5)) (1:Nat)) (nat_lit 1)∧∃x_11:Sl,aq (V.sets (Addr.add (ad.add (x.toNat*5)) (1:Nat)) [.int .i64 (x_10+1)]) (Addr.mk b 0 none) [.slice x_11.a x_11.n x_11.c]∧Q (Value.tuple ⟨[.agg ⟨[.slice x_11.a x_11.n x_11.c]⟩,.int .i64 0]⟩) (V.sets (Addr.add (ad.add (x.toNat*5)) (1:Nat)) [.int .i64 (x_10+1)]))))))
def D5:AC:=(.seq qd (.seq qd (.seq (.block none (.seq qd (.cond none (.seq qd .leaf) (.seq qd (.cond none (.seq qd .leaf) .leaf))))) (.seq qd (.seq (.block none (.seq qd (.cond none (.seq qd .leaf) (.seq qd (.cond none (.seq qd .leaf) .leaf))))) (.seq (.reg ⟨.done,false,[(3,3)],[],none⟩) (.seq (.seq qd (.seq qd (.cond none (.seq qd .leaf) .leaf))) (.seq qd (.seq qd .leaf)))))))))
theorem JM {a0_0:Sl} {a1:ByteArray} {a2:ByteArray} {V:View} {Q:Value→View→Prop} (h:Bv a0_0 a1 a2 V Q):af Tryz.prog 101 ⟨[(.agg ⟨[(.slice a0_0.a a0_0.n a0_0.c)]⟩),(.string a1),(.string a2)]⟩ V Q:=
 obx false Tryz.f101 D5 (by kernel_rfl) (by kernel_rfl) (by kernel_rfl) (by kernel_rfl) h
def Bw (a0_0:Sl) (a1:ByteArray) (V:View) (Q:Value→View→Prop):Prop:=
 ∀(b:Nat),af Tryz.prog 69 ⟨[.agg ⟨[.slice a0_0.a a0_0.n a0_0.c]⟩]⟩ V fun r V=>∃x:Bool,r= .bool x∧br (!x) (Q (Value.tuple ⟨[.int .i64 0,.int .i64 1]⟩) V) (af Tryz.prog 151 ⟨[.string a1]⟩ V fun r V=>∃x:Sl,∃x_1:Int,r=Value.tuple ⟨[.slice x.a x.n x.c,.int .i64 x_1]⟩∧br (!decide (x_1=0)) (Q (Value.tuple ⟨[.int .i64 0,.int .i64 x_1]⟩) V) (af Tryz.prog 152 ⟨[.agg ⟨[.slice a0_0.a a0_0.n a0_0.c]⟩,.slice x.a x.n x.c]⟩ V fun r V=>∃x x_2:Int,r=Value.tuple ⟨[.int .i64 x,.int .i64 x_2]⟩∧Q (Value.tuple ⟨[.int .i64 x,.int .i64 x_2]⟩) V))
def D6:AC:=(.seq qd (.seq (.seq qd (.cond none (.seq qd .leaf) .leaf)) (.seq qd (.seq (.seq qd (.cond none (.seq qd .leaf) .leaf)) (.seq qd .leaf)))))
theorem JN {a0_0:Sl} {a1:ByteArray} {V:View} {Q:Value→View→Prop} (h:Bw a0_0 a1 V Q):af Tryz.prog 102 ⟨[(.agg ⟨[(.slice a0_0.a a0_0.n a0_0.c)]⟩),(.string a1)]⟩ V Q:=
 obx false Tryz.f102 D6 (by kernel_rfl) (by kernel_rfl) (by kernel_rfl) (by kernel_rfl) h
def Bx (a0:Sl) (V:View) (Q:Value→View→Prop):Prop:=
 aG [K.sl,K.int .i64] (fun(x:Sl) (x_1:Int) (V:View) (J:c7 [K.sl,K.int .i64])=>br (decide (x_1<(a0.n:Int))) (0≤x_1∧x_1<(a0.n:Int)∧∃ad:Addr,a0.a=some ad∧∃x_2:ByteArray,∃x_3:Int,aq V (ad.add (x_1.toNat*2)) [.string x_2,.int .i64 x_3]∧∀(b:Nat),b7 V (Obj.cells (Array.mk (bD [.string ⟨#[]⟩] (0:Nat) [.string x_2])) (9:Nat)) fun r V=>apV V (9:Nat) (1:Nat) (16:Nat) [.string ⟨#[]⟩] (Sl.mk x.a x.n x.c) (.slice (some (Addr.mk r 0 none)) (1:Nat) (1:Nat)) fun s V=>inI .i64 (x_1+1)∧J (Sl.mk s.a s.n s.c) (x_1+1) V) (Q (.slice x.a x.n x.c) V)) (Sl.mk none (0:Nat) (0:Nat),(0:Int),()) V
def D7:AC:=(.seq qd (.seq qd (.seq (.seq qd (.block none (.loop ⟨([5]++rg 9 9),[(3,.sl),(8,.int .i64)],[]⟩ (.seq qd (.seq (.cond none .leaf .leaf) (.seq (.block none (.seq qd qd)) qd)))))) (.seq qd .leaf))))
theorem JO {a0:Sl} {V:View} {Q:Value→View→Prop} (h:Bx a0 V Q):af Tryz.prog 103 ⟨[(.slice a0.a a0.n a0.c)]⟩ V Q:=
 obx false Tryz.f103 D7 (by kernel_rfl) (by kernel_rfl) (by kernel_rfl) (by kernel_rfl) h
def By (a0:Sl) (a1:Int) (V:View) (Q:Value→View→Prop):Prop:=
 af Tryz.prog 142 ⟨[.slice a0.a a0.n a0.c]⟩ V fun r V=>∃x:Bool,r= .bool x∧br (bif bif x then true else decide (a1<0)then true else decide (12≤a1)) (Q (Value.tuple ⟨[.slice none 0 0,.int .i64 0,.int .i64 1]⟩) V) (af Tryz.prog 153 ⟨[.slice a0.a a0.n a0.c,.int .i64 (-1)]⟩ V fun r V=>∃x:Int,r= .int .i64 x∧br (decide (x<0)) (Q (Value.tuple ⟨[.slice none 0 0,.int .i64 0,.int .i64 15]⟩) V) (af Tryz.prog 56 ⟨[.slice a0.a a0.n a0.c]⟩ V fun r V=>∃x_1:Sl,r= .slice x_1.a x_1.n x_1.c∧0≤x∧x<(x_1.n:Int)∧∃ad:Addr,x_1.a=some ad∧ay V (ad.add (x.toNat*1)) (nat_lit 1)∧Q (Value.tuple ⟨[.slice x_1.a x_1.n x_1.c,.int .i64 x,.int .i64 0]⟩) (V.sets (ad.add (x.toNat*1)) [.int .i64 a1])))
def D8:AC:=(.seq qd (.seq (.seq qd (.cond none (.seq qd .leaf) .leaf)) (.seq qd (.seq (.seq qd (.cond none (.seq qd .leaf) .leaf)) (.seq qd (.seq qd (.seq qd .leaf)))))))
theorem JP {a0:Sl} {a1:Int} {V:View} {Q:Value→View→Prop} (h:By a0 a1 V Q):af Tryz.prog 104 ⟨[(.slice a0.a a0.n a0.c),(.int .i64 a1)]⟩ V Q:=
 obx false Tryz.f104 D8 (by kernel_rfl) (by kernel_rfl) (by kernel_rfl) (by kernel_rfl) h
def Bz (a0:Sl) (a1:Int) (V:View) (Q:Value→View→Prop):Prop:=
 af Tryz.prog 106 ⟨[.slice a0.a a0.n a0.c,.int .i64 a1]⟩ V fun r V=>∃x x_1:Int,r=Value.tuple ⟨[.int .i64 x,.int .i64 x_1]⟩∧br (!decide (x_1=0)) (Q (Value.tuple ⟨[.slice none 0 0,.int .i64 0,.int .i64 x_1]⟩) V) (af Tryz.prog 56 ⟨[.slice a0.a a0.n a0.c]⟩ V fun r V=>∃x_2:Sl,r= .slice x_2.a x_2.n x_2.c∧0≤a1∧a1<(x_2.n:Int)∧∃ad:Addr,x_2.a=some ad∧ay V (ad.add (a1.toNat*1)) (1:Nat)∧Q (Value.tuple ⟨[.slice x_2.a x_2.n x_2.c,.int .i64 x,.int .i64 0]⟩) (V.sets (ad.add (a1.toNat*1)) [.int .i64 (-1)]))
def D9:AC:=(.seq qd (.seq qd (.seq (.seq qd (.cond none (.seq qd .leaf) .leaf)) (.seq qd (.seq qd (.seq qd .leaf))))))
theorem JQ {a0:Sl} {a1:Int} {V:View} {Q:Value→View→Prop} (h:Bz a0 a1 V Q):af Tryz.prog 105 ⟨[(.slice a0.a a0.n a0.c),(.int .i64 a1)]⟩ V Q:=
 obx false Tryz.f105 D9 (by kernel_rfl) (by kernel_rfl) (by kernel_rfl) (by kernel_rfl) h
def BA (a0:Sl) (a1:Int) (V:View) (Q:Value→View→Prop):Prop:=
 af Tryz.prog 142 ⟨[.slice a0.a a0.n a0.c]⟩ V fun r V=>∃x:Bool,r= .bool x∧br x (Q (Value.tuple ⟨[.int .i64 0,.int .i64 1]⟩) V) (aA [K.bool] (fun J=>br (bif decide (a1<0)then true else decide ((a0.n:Int)≤a1)) (J true V) (0≤a1∧a1<(a0.n:Int)∧∃ad:Addr,a0.a=some ad∧∃x:Int,V.cell? (ad.add (a1.toNat*1))=some (.int .i64 x)∧J (decide (x=(-1:Int))) V)) fun x V=>br x (Q (Value.tuple ⟨[.int .i64 0,.int .i64 15]⟩) V) (0≤a1∧a1<(a0.n:Int)∧∃ad:Addr,a0.a=some ad∧∃x:Int,V.cell? (ad.add (a1.toNat*1))=some (.int .i64 x)∧Q (Value.tuple ⟨[.int .i64 x,.int .i64 0]⟩) V))
def Ea:AC:=(.seq qd (.seq (.block none (.seq qd (.cond none (.seq qd .leaf) (.seq (.reg ⟨.done,false,[],[],(some ⟨(rg 10 15),[(9,.bool)],[]⟩)⟩) (.cond none (.seq qd .leaf) .leaf))))) (.seq qd .leaf)))
theorem JR {a0:Sl} {a1:Int} {V:View} {Q:Value→View→Prop} (h:BA a0 a1 V Q):af Tryz.prog 106 ⟨[(.slice a0.a a0.n a0.c),(.int .i64 a1)]⟩ V Q:=
 obx false Tryz.f106 Ea (by kernel_rfl) (by kernel_rfl) (by kernel_rfl) (by kernel_rfl) h
end Go.Proofs.YtoogangnldppaaaGreatDoor
