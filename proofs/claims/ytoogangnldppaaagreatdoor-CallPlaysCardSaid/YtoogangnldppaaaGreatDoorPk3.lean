/- Texts joined: QuotaOk, FileOk, File2Ok, MakeOk, Shelf, Lib, PathOk, ReadOk, ReadNOk, RootLaw, RootOk, EqOk, AwakeOk, FindOk, BackLaw, RootCutOk, Dir1Ok, TreeLaw, Dir2Ok, Dir3Ok, DrFast, RootBackOk, Dir4Ok, BitsLaw, Ref3Ok, Put3Ok, Ref4Ok, Dir5Ok, CopXOk, WalkLaw, WalksLaw, WalkOk, RootClearsOk, DirWalksOk, TrLaw, TreOk, Tr1Law, Tr2Ok, Tr3Ok, Tr4Ok, Tr5Ok, Tr2Law, Tr3Law, Tr4Law. -/
import Derived.Test.YtoogangnldppaaaGreatDoorPk2
import Derived.Shelf.Strings.Builder1
import Derived.Shelf.Strings.Builder2
import Derived.Shelf.Strings.OnBuilder
import Derived.Shelf.Small.Wraps
import Derived.Shelf.Strings.Search1
import Derived.Shelf.Strings.Search2
import Derived.Shelf.Strings.Search3
import Derived.Shelf.Strings.Count
import Derived.Shelf.LaysM
import Derived.Shelf.Strings.Shaped
import Derived.Shelf.Strings.Prefix
import Derived.Shelf.Strings.Split
import Derived.Shelf.Strings.SplitShaped
import Derived.Shelf.Bits.Mul64
import Derived.Shelf.Unicode.DecodeSlow
import Derived.Ground.Names2Prog
import Derived.Shelf.Slices.Clone
import Derived.Test.YtoogangnldppaaaGreatDoorProg
import Derived.Test.YtoogangnldppaaaGreatDoorPk1
import Derived.Test.YtoogangnldppaaaGreatDoorMSoundC
import Derived.Test.YtoogangnldppaaaGreatDoorMCore
set_option linter.unusedVariables false
/- Contracts of package quota, and of the reference's counts. -/
namespace Go.Proofs.YtoogangnldppaaaGreatDoor
open Go
theorem vL:∀ {f a n:Nat} {p:Pce},p∈jQ f a n→a+n≤80→0≤p.aS∧p.aS<5∧0≤p.from_∧0<p.len∧p.from_+p.len≤16
 | 0,_,_,_,h,_=>by unfold jQ at h;cases h
 | f+1,a,n,p,h,hle=>by
   unfold jQ at h
   split at h
   ·cases h
   ·rcases List.mem_cons.1 h with h | h
    ·subst h;dsimp only;omega
    ·exact vL h (by omega)
theorem gi {a n:Int} {p:Pce} (h:p∈aC a n):0≤p.aS∧p.aS<5∧0≤p.from_∧0<p.len∧p.from_+p.len≤16:=by
 unfold aC at h
 split at h
 ·rename_i hf
  unfold dZ at hf
  have hf:=of_decide_eq_true hf
  exact vL h (by omega)
 ·cases h
theorem vM:∀(f a n:Nat),(jQ f a n).length≤n
 | 0,_,_=>by unfold jQ;simp
 | f+1,a,n=>by
   unfold jQ
   split
   ·simp
   ·rw[List.length_cons]
    have:=vM f (a+min n (16-a%16)) (n-min n (16-a%16))
    omega
theorem dL (a n:Int):(aC a n).length≤80:=by
 unfold aC
 split
 ·rename_i hf
  unfold dZ at hf
  have hf:=of_decide_eq_true hf
  have:=vM n.toNat a.toNat n.toNat
  unfold pcs
  omega
 ·simp
def jr (t:Tre):Bool:= !(decide (t.length=12)&&t.all bA)
theorem nk {t:Tre} (h:jr t=false):t.length=12:=by
 unfold jr at h
 exact of_decide_eq_true (Bool.and_eq_true_iff.1 (aD h)).1
def qB (n:Nod):Nat:=(lN 0 n).length
theorem qC (n:Nod):qB n≤5:=Ab 0 n
def lO (t:Tre) (k:Nat):Nat:=((List.range k).map fun i=>qB (t.getD i default)).sum
theorem mh (t:Tre) (k:Nat):lO t (k+1)=lO t k+qB (t.getD k default):=by
 unfold lO;rw[List.range_succ];simp
theorem nr (t:Tre):∀k,lO t k≤5*k
 | 0=>by unfold lO;simp
 | k+1=>by
   rw[mh]
   have:=nr t k
   have:=qC (t.getD k default)
   omega
def gD (t:Tre):Nat:=if jr t=true then 0 else lO t 12
theorem qD (t:Tre):gD t≤60:=by
 unfold gD
 split
 ·omega
 ·exact nr t 12
def iJ (t:Tre) (k:Nat):Nat:=(List.range k).countP fun i=>decide ((t.getD i default).kind=0)
theorem qE (t:Tre) (k:Nat):iJ t (k+1)=iJ t k+(if(t.getD k default).kind=0 then 1 else 0):=by
 unfold iJ;rw[List.range_succ,List.countP_append,List.countP_singleton];simp
theorem vN (t:Tre) (k:Nat):iJ t k≤k:=by
 unfold iJ
 have:=List.countP_le_length (p:=fun i=>decide ((t.getD i default).kind=0)) (l:=List.range k)
 rwa [List.length_range]at this
def js (t:Tre):Nat:=if jr t=true then 0 else iJ t 12
def kE (t:Tre) (d:Int):Int:=if jr t=true then 0 else if(gD t:Int)<d then d-gD t else 0
theorem Da {n:Nod} {s e:Sl} {V:View} (h:dJ V s e n):af Tryz.prog 159 ⟨[eN n s e]⟩ V fun r V' =>r= .bool (!bA n)∧V' =V:=by
 refine KG ?_
 unfold Cs
 refine fun _=>(pJ h).mono ?_
 rintro r V' ⟨rfl,rfl⟩
 exact⟨_,rfl,rfl,rfl⟩
theorem kF {s:Sl} {t:Tre} {V:View} (h:SlR V s t):af Tryz.prog 111 ⟨[aZ s]⟩ V fun r V' =>r= .bool (jr t)∧V' =V:=by
 refine JW ?_
 unfold BF
 have hn:=h.n
 refine fun _=>ai (fun q V' =>q.1=jr t∧V' =V) (aa (fun hb=>⟨?_,rfl⟩) (fun hb=>(jk (xs:= []) (ys:= []) (p:=fun n=> !bA n) h fun n _ a b hN=>Da hN).mono ?_)) ?_
 ·have:=of_decide_eq_false (aM hb)
  unfold jr
  rw[decide_eq_false (show ¬t.length=12 by omega)];rfl
 ·rintro r V' ⟨rfl,rfl⟩
  have:=of_decide_eq_true (aD hb)
  have e1:(t.any fun n=> !bA n)= !t.all bA:=by rw[List.any_eq_not_all_not];simp
  refine⟨_,rfl, ?_,rfl⟩
  unfold jr
  rw[decide_eq_true (show t.length=12 by omega),e1];rfl
 rintro⟨q,⟨⟩⟩ V' ⟨h1,hV⟩
 have h1:q=jr t:=h1
 have hV:V' =V:=hV
 subst h1 hV
 exact⟨rfl,rfl⟩
theorem kG {s:Sl} {t:Tre} {V:View} (h:SlR V s t):af Tryz.prog 43 ⟨[aZ s]⟩ V fun r V' =>r= .bool (!jr t)∧V' =V:=by
 refine L9 ?_
 unfold GN
 have hn:=h.n;have hlim:=h.lim
 refine fun _=>bh (k:= .int .i64) (fun(x:Int) V' =>V' =V∧0≤x∧x≤s.n∧∀j (hj:j<t.length),(j:Int)<x→bA t[j]=true) (fun(x:Int) _=>s.n-x.toNat) ⟨rfl,by omega,by omega,fun j _ hj=>by omega⟩ ?_
 rintro(x:Int) V' ⟨rfl,h0,h1,h2⟩
 refine aa (fun hlt=> ?_) (fun hge=> ?_)
 ·have hlt:x<s.n:=by simpa using hlt
  obtain⟨ad,sq,en,hx,ha,hc,hN⟩:=h.nod h0 hlt
  refine⟨h0,hlt,ad,ha,_,_,_,sq,en,hc,fun _=>(pK hN).mono ?_⟩
  rintro r V1 ⟨rfl,rfl⟩
  refine⟨_,rfl,aa (fun hb=>⟨?_,rfl⟩) (fun hb=>⟨au (by omega) (by omega),⟨rfl,by omega,by omega,fun j hj hjx=> ?_⟩,by omega⟩)⟩
  ·have hb:=aM hb
   have:t.all bA=false:=List.all_eq_false.2 ⟨_,List.getElem_mem hx,by rw[hb];decide⟩
   unfold jr
   rw[this,Bool.and_false];rfl
  ·by_cases e:(j:Int)<x
   ·exact h2 j hj e
   ·have:j=x.toNat:=by omega
    subst this;exact aD hb
 ·have hge:¬x<s.n:=by simpa using hge
  refine⟨?_,rfl⟩
  have:t.all bA=true:=List.all_eq_true.2 fun y hy=>by
   obtain⟨j,hj,rfl⟩:=List.getElem_of_mem hy
   exact h2 j hj (by omega)
  unfold jr
  rw[this,hn,Bool.and_true,Bool.not_not]
  congr 1
  exact decide_eq_decide.2 ⟨fun h=>by omega,fun h=>by omega⟩
theorem rS {n:Nod} {s e:Sl} {V:View} (h:dJ V s e n):af Tryz.prog 158 ⟨[eN n s e]⟩ V fun r V' =>r= .int .i64 (qB n:Nat)∧V.Le V' :=by
 refine KF ?_
 unfold Cr
 refine fun _=>(C9 (i:=0) h).mono ?_
 rintro r V' ⟨x,rfl,hx,hV⟩
 refine⟨x,rfl, ?_,hV⟩
 rw[hx.n];rfl
theorem ur {n:Nod} {s e:Sl} {V:View} (h:dJ V s e n):af Tryz.prog 44 ⟨[eN n s e]⟩ V fun r V' =>r= .int .i64 (qB n:Nat)∧V' =V:=by
 refine Ma ?_
 unfold GO
 refine fun _=>ai (fun q V' =>q.1=(!decide (n.kind=1∧bA n=true))∧V' =V) (aa (fun hb=>⟨?_,rfl⟩) (fun hb=>(pK h).mono ?_)) ?_
 ·have hb:=of_decide_eq_false (aM hb)
  rw[decide_eq_false (fun h=>hb h.1)];rfl
 ·have hb:=of_decide_eq_true (aD hb)
  rintro r V1 ⟨rfl,rfl⟩
  refine⟨_,rfl, ?_,rfl⟩
  cases hm:bA n
  ·rw[decide_eq_false (fun h=>by cases h.2)]
  ·rw[decide_eq_true ⟨hb,rfl⟩]
 rintro⟨q,⟨⟩⟩ V1 ⟨h1,hV⟩
 have h1:q= !decide (n.kind=1∧bA n=true):=h1
 have hV:V1=V:=hV
 subst h1 hV
 dsimp only [unc]
 refine aa (fun hb=>⟨?_,rfl⟩) (fun hb=> ?_)
 ·have hb:=of_decide_eq_false (aM hb)
  unfold qB lN;rw[if_neg (fun h=>hb ⟨h.1,h.2.1⟩)];rfl
 have hb:=of_decide_eq_true (aD hb)
 have h5:=gZ hb.2
 have hR:lN 0 n=jq 0 n n.an.length:=by unfold lN;rw[if_pos ⟨hb.1,hb.2,by decide⟩]
 have hsn:=h.an.n
 refine di (k:= .int .i64) (l:= .int .i64) (fun(x j:Int) V' =>V' =V1∧∃k:Nat,j=k∧k≤n.an.length∧x=((jq 0 n k).length:Nat)) (fun _ (j:Int) _=>n.an.length-j.toNat) ⟨rfl,0,rfl,by omega,rfl⟩ ?_
 rintro(x j:Int) V2 ⟨rfl,k,rfl,hk,rfl⟩
 have hkl:=n9 0 n k
 refine aa (fun hlt=> ?_) (fun hge=> ?_)
 ·have hlt:k<n.an.length:=by have:=of_decide_eq_true hlt;omega
  obtain⟨ad,ha,hc,_⟩:=h.an.fD hlt
  refine⟨by omega,by omega,ad,ha,_,hc, ?_⟩
  refine ai (fun q V' =>q.1=((jq 0 n (k+1)).length:Nat)∧V' =V2) (aa (fun h0=>⟨au (by omega) (by omega), ?_,rfl⟩) (fun h0=>⟨?_,rfl⟩)) ?_
  ·have h0:¬n.an.getD k 0=0:=of_decide_eq_false (aM h0)
   rw[jS,if_neg h0,List.length_append];rfl
  ·have h0:n.an.getD k 0=0:=of_decide_eq_true (aD h0)
   rw[jS,if_pos h0,List.append_nil]
  ·rintro⟨q,⟨⟩⟩ V3 ⟨h1,hV⟩
   have h1:q=((jq 0 n (k+1)).length:Nat):=h1
   have hV:V3=V2:=hV
   subst h1 hV
   exact⟨au (by omega) (by omega),⟨rfl,k+1,by omega,by omega,rfl⟩,by omega⟩
 ·have hge:k=n.an.length:=by have:=of_decide_eq_false hge;omega
  subst hge
  refine⟨?_,rfl⟩
  unfold qB;rw[hR]
theorem nt {s:Sl} {t:Tre} {V:View} (h:SlR V s t):af Tryz.prog 110 ⟨[aZ s]⟩ V fun r V' =>r= .int .i64 (gD t:Nat)∧V.Le V' :=by
 refine JV ?_
 unfold BE
 have hn:=h.n
 refine fun _=>(kF h).mono ?_
 rintro r V1 ⟨rfl,rfl⟩
 refine⟨_,rfl,aa (fun ho=>⟨by unfold gD;rw[if_pos ho];rfl,View.Le.refl _⟩) (fun ho=> ?_)⟩
 have hE:gD t=lO t 12:=by unfold gD;rw[if_neg (by rw[ho];decide)]
 have hl:=nk ho
 refine di (k:= .int .i64) (l:= .int .i64) (fun(x j:Int) V' =>V1.Le V' ∧∃k:Nat,j=k∧k≤12∧x=(lO t k:Nat)) (fun _ (j:Int) _=>12-j.toNat) ⟨View.Le.refl _,0,rfl,by omega,rfl⟩ ?_
 rintro(x j:Int) V2 ⟨hV2,k,rfl,hk,rfl⟩
 refine aa (fun hlt=> ?_) (fun hge=> ?_)
 ·have hlt:k<12:=by have:=of_decide_eq_true hlt;omega
  obtain⟨ad,sq,en,ha,hc,hN⟩:=(h.mono hV2).bO (i:=k) (by omega)
  refine⟨by omega,by omega,ad,ha,_,_,_,sq,en,hc,fun _=>(rS hN).mono ?_⟩
  rintro r V3 ⟨rfl,hV3⟩
  have:=nr t k
  have:=qC (t.getD k default)
  exact⟨_,rfl,au (by omega) (by omega),au (by omega) (by omega),⟨hV2.trans hV3,k+1,by omega,by omega,by rw[mh];omega⟩,by omega⟩
 ·have hge:k=12:=by have:=of_decide_eq_false hge;omega
  subst hge
  exact⟨by rw[hE],hV2⟩
theorem qF {s:Sl} {t:Tre} {V:View} (h:SlR V s t):af Tryz.prog 19 ⟨[aZ s]⟩ V fun r V' =>r= .int .i64 (gD t:Nat)∧V' =V:=by
 refine LN ?_
 unfold Gp
 have hn:=h.n
 refine fun _=>(kG h).mono ?_
 rintro r V1 ⟨rfl,rfl⟩
 refine⟨_,rfl,aa (fun ho=>⟨by unfold gD;rw[if_pos (by simpa using ho)];rfl,rfl⟩) (fun ho=> ?_)⟩
 have ho:jr t=false:=by simpa using ho
 have hE:gD t=lO t 12:=by unfold gD;rw[if_neg (by rw[ho];decide)]
 have hl:=nk ho
 refine di (k:= .int .i64) (l:= .int .i64) (fun(x j:Int) V' =>V' =V1∧∃k:Nat,j=k∧k≤12∧x=(lO t k:Nat)) (fun _ (j:Int) _=>12-j.toNat) ⟨rfl,0,rfl,by omega,rfl⟩ ?_
 rintro(x j:Int) V2 ⟨rfl,k,rfl,hk,rfl⟩
 refine aa (fun hlt=> ?_) (fun hge=> ?_)
 ·have hlt:k<12:=by have:=of_decide_eq_true hlt;omega
  obtain⟨ad,sq,en,ha,hc,hN⟩:=h.bO (i:=k) (by omega)
  refine⟨by omega,by omega,ad,ha,_,_,_,sq,en,hc,fun _=>(ur hN).mono ?_⟩
  rintro r V3 ⟨rfl,rfl⟩
  have:=nr t k
  have:=qC (t.getD k default)
  exact⟨_,rfl,au (by omega) (by omega),au (by omega) (by omega),⟨rfl,k+1,by omega,by omega,by rw[mh];omega⟩,by omega⟩
 ·have hge:k=12:=by have:=of_decide_eq_false hge;omega
  subst hge
  exact⟨by rw[hE],rfl⟩
theorem uu {s:Sl} {t:Tre} {d:Int} {V:View} (h:SlR V s t) (hd:d≤9223372036854775807):af Tryz.prog 67 ⟨[aZ s,.int .i64 d]⟩ V fun r V' =>r= .int .i64 (kE t d)∧V.Le V' :=by
 refine Mt ?_
 unfold G9
 refine fun _=>(nt h).mono ?_
 rintro r V1 ⟨rfl,hV1⟩
 refine⟨_,rfl,(kF (h.mono hV1)).mono ?_⟩
 rintro r V2 ⟨rfl,rfl⟩
 refine⟨_,rfl,aa (fun hb=> ?_) (fun hb=>⟨?_,hV1⟩)⟩
 ·simp at hb
  refine⟨au (by omega) (by omega), ?_,hV1⟩
  unfold kE;rw[if_neg (by rw[hb.1];decide),if_pos hb.2]
 ·unfold kE
  split
  ·rfl
  ·rename_i ho
   have ho:jr t=false:=Bool.eq_false_iff.2 ho
   rw[ho]at hb
   rw[if_neg (of_decide_eq_false hb)]
theorem xU {s:Sl} {t:Tre} {d:Int} {V:View} (h:SlR V s t) (hd:d≤9223372036854775807):af Tryz.prog 55 ⟨[aZ s,.int .i64 d]⟩ V fun r V' =>r= .int .i64 (kE t d)∧V' =V:=by
 refine Mk ?_
 unfold GZ
 refine fun _=>(kG h).mono ?_
 rintro r V1 ⟨rfl,rfl⟩
 have hu:=qD t
 refine⟨_,rfl,aa (fun hb=>⟨?_,rfl⟩) (fun hb=> ?_)⟩
 ·unfold kE
  split
  ·rfl
  ·rename_i ho
   have ho:jr t=false:=Bool.eq_false_iff.2 ho
   rw[ho]at hb
   have hb:d<0:=of_decide_eq_true hb
   rw[if_neg (by omega)]
 ·have hc:jr t=false∧0≤d:=by
   cases ho:jr t<;>simp [ho]at hb ⊢ <;>omega
  refine(qF h).mono ?_
  rintro r V2 ⟨rfl,rfl⟩
  refine⟨_,rfl,au (by omega) (by omega), ?_,rfl⟩
  unfold kE;rw[if_neg (show ¬jr t=true by rw[hc.1];decide)]
  by_cases hq:(gD t:Int)<d
  ·rw[if_pos (show d-(gD t:Int)>0 by omega),if_pos hq]
  ·rw[if_neg (show ¬d-(gD t:Int)>0 by omega),if_neg hq]
theorem rT {s:Sl} {t:Tre} {V:View} (h:SlR V s t):af Tryz.prog 68 ⟨[aZ s]⟩ V fun r V' =>r= .int .i64 (js t:Nat)∧V' =V:=by
 refine Mu ?_
 unfold He
 have hn:=h.n
 refine fun _=>(kF h).mono ?_
 rintro r V1 ⟨rfl,rfl⟩
 refine⟨_,rfl,aa (fun ho=>⟨by unfold js;rw[if_pos ho];rfl,rfl⟩) (fun ho=> ?_)⟩
 have hE:js t=iJ t 12:=by unfold js;rw[if_neg (by rw[ho];decide)]
 have hl:=nk ho
 refine di (k:= .int .i64) (l:= .int .i64) (fun(x j:Int) V' =>V' =V1∧∃k:Nat,j=k∧k≤12∧x=(iJ t k:Nat)) (fun _ (j:Int) _=>12-j.toNat) ⟨rfl,0,rfl,by omega,rfl⟩ ?_
 rintro(x j:Int) V2 ⟨rfl,k,rfl,hk,rfl⟩
 have hfl:=vN t k
 have hfs:=qE t k
 refine aa (fun hlt=> ?_) (fun hge=> ?_)
 ·have hlt:k<12:=by have:=of_decide_eq_true hlt;omega
  obtain⟨ad,sq,en,ha,hc,hN⟩:=h.bO (i:=k) (by omega)
  refine⟨by omega,by omega,ad,ha,_,_,_,sq,en,hc,fun _=>ai (fun q V' =>q.1=(iJ t (k+1):Nat)∧V' =V2) (aa (fun h0=>⟨au (by omega) (by omega), ?_,rfl⟩) (fun h0=>⟨?_,rfl⟩)) ?_⟩
  ·rw[hfs,if_pos (of_decide_eq_true h0)];rfl
  ·rw[hfs,if_neg (of_decide_eq_false h0)];rfl
  ·rintro⟨q,⟨⟩⟩ V3 ⟨h1,hV⟩
   have h1:q=(iJ t (k+1):Nat):=h1
   have hV:V3=V2:=hV
   subst h1 hV
   exact⟨au (by omega) (by omega),⟨rfl,k+1,by omega,by omega,rfl⟩,by omega⟩
 ·have hge:k=12:=by have:=of_decide_eq_false hge;omega
  subst hge
  exact⟨by rw[hE],rfl⟩
theorem vO {s:Sl} {t:Tre} {V:View} (h:SlR V s t):af Tryz.prog 20 ⟨[aZ s]⟩ V fun r V' =>r= .int .i64 (js t:Nat)∧V' =V:=by
 refine LO ?_
 unfold Gq
 have hn:=h.n
 refine fun _=>(kG h).mono ?_
 rintro r V1 ⟨rfl,rfl⟩
 refine⟨_,rfl,aa (fun ho=>⟨by unfold js;rw[if_pos (by simpa using ho)];rfl,rfl⟩) (fun ho=> ?_)⟩
 have ho:jr t=false:=by simpa using ho
 have hE:js t=iJ t 12:=by unfold js;rw[if_neg (by rw[ho];decide)]
 have hl:=nk ho
 refine di (k:= .int .i64) (l:= .int .i64) (fun(x j:Int) V' =>V' =V1∧∃k:Nat,j=k∧k≤12∧x=(iJ t k:Nat)) (fun _ (j:Int) _=>12-j.toNat) ⟨rfl,0,rfl,by omega,rfl⟩ ?_
 rintro(x j:Int) V2 ⟨rfl,k,rfl,hk,rfl⟩
 have hfl:=vN t k
 have hfs:=qE t k
 refine aa (fun hlt=> ?_) (fun hge=> ?_)
 ·have hlt:k<12:=by have:=of_decide_eq_true hlt;omega
  obtain⟨ad,sq,en,ha,hc,hN⟩:=h.bO (i:=k) (by omega)
  refine⟨by omega,by omega,ad,ha,_,_,_,sq,en,hc,fun _=>ai (fun q V' =>q.1=(iJ t (k+1):Nat)∧V' =V2) (aa (fun h0=>⟨au (by omega) (by omega), ?_,rfl⟩) (fun h0=>⟨?_,rfl⟩)) ?_⟩
  ·rw[hfs,if_pos (of_decide_eq_true h0)];rfl
  ·rw[hfs,if_neg (of_decide_eq_false h0)];rfl
  ·rintro⟨q,⟨⟩⟩ V3 ⟨h1,hV⟩
   have h1:q=(iJ t (k+1):Nat):=h1
   have hV:V3=V2:=hV
   subst h1 hV
   exact⟨au (by omega) (by omega),⟨rfl,k+1,by omega,by omega,rfl⟩,by omega⟩
 ·have hge:k=12:=by have:=of_decide_eq_false hge;omega
  subst hge
  exact⟨by rw[hE],rfl⟩
theorem sU {n:Nod} (h:bA n=true) (hk:n.kind=1):n.an.length=5:=by
 unfold bA at h
 rw[if_neg (by omega),if_pos hk]at h
 unfold fG at h
 simp at h
 omega
def iK (n:Nod) (l:List Pce) (k:Nat):Nat:=(l.take k).countP fun p=>decide (n.an.getD p.aS.toNat 0=0)
theorem qG (n:Nod) {l:List Pce} {k:Nat} (h:k<l.length):iK n l (k+1)=iK n l k+(if n.an.getD (l.getD k default).aS.toNat 0=0 then 1 else 0):=by
 unfold iK
 rw[List.take_add_one,List.getElem?_eq_getElem h,List.countP_append,Option.toList_some,List.countP_singleton]
 rw[show l.getD k default=l[k] by rw[List.getD_eq_getElem?_getD,List.getElem?_eq_getElem h];rfl]
 simp
theorem qH (n:Nod) (l:List Pce) (k:Nat):iK n l k≤l.length:=by
 unfold iK
 refine Nat.le_trans List.countP_le_length ?_
 rw[List.length_take];omega
def jt (n:Nod) (a z:Int):Nat:=if n.kind=1∧bA n=true then iK n (aC a z) (aC a z).length else 0
theorem vP (n:Nod) (a z:Int):jt n a z≤80:=by
 unfold jt
 split
 ·exact Nat.le_trans (qH _ _ _) (dL a z)
 ·omega
theorem uv {n:Nod} {s e:Sl} {a z:Int} {V:View} (h:dJ V s e n):af Tryz.prog 154 ⟨[eN n s e,.int .i64 a,.int .i64 z]⟩ V fun r V' =>r= .int .i64 (jt n a z:Nat)∧V.Le V' :=by
 refine KB ?_
 unfold Cn
 refine fun _=>ai (fun q V' =>q.1=(!decide (n.kind=1∧bA n=true))∧V' =V) (aa (fun hb=>⟨?_,rfl⟩) (fun hb=>(pJ h).mono ?_)) ?_
 ·have hb:=of_decide_eq_false (aM hb)
  rw[decide_eq_false (fun h=>hb h.1)];rfl
 ·have hb:=of_decide_eq_true (aD hb)
  rintro r V1 ⟨rfl,rfl⟩
  refine⟨_,rfl, ?_,rfl⟩
  cases hm:bA n
  ·rw[decide_eq_false (fun h=>by cases h.2)]
  ·rw[decide_eq_true ⟨hb,rfl⟩]
 rintro⟨q,⟨⟩⟩ V1 ⟨h1,hV⟩
 have h1:q= !decide (n.kind=1∧bA n=true):=h1
 have hV:V1=V:=hV
 subst h1 hV
 dsimp only [unc]
 refine aa (fun hb=>⟨?_,View.Le.refl _⟩) (fun hb=> ?_)
 ·have hb:=of_decide_eq_false (aM hb)
  unfold jt;rw[if_neg hb];rfl
 have hb:=of_decide_eq_true (aD hb)
 have h5:=sU hb.2 hb.1
 have hE:jt n a z=iK n (aC a z) (aC a z).length:=by unfold jt;rw[if_pos hb]
 have hpl:=dL a z
 have hsn:=h.an.n
 refine gx.mono ?_
 rintro r V2 ⟨x,rfl,hx,hV2⟩
 have hxn:=hx.n
 refine⟨x,rfl, ?_⟩
 refine di (k:= .int .i64) (l:= .int .i64) (fun(c j:Int) V' =>V' =V2∧∃k:Nat,j=k∧k≤(aC a z).length∧c=(iK n (aC a z) k:Nat)) (fun _ (j:Int) _=>(aC a z).length-j.toNat) ⟨rfl,0,rfl,by omega,rfl⟩ ?_
 rintro(c j:Int) V3 ⟨rfl,k,rfl,hk,rfl⟩
 have hml:=qH n (aC a z) k
 refine aa (fun hlt=> ?_) (fun hge=> ?_)
 ·have hlt:k<(aC a z).length:=by have:=of_decide_eq_true hlt;omega
  have hms:=qG n hlt
  obtain⟨ad,ha,hc⟩:=hx.xR hlt
  have hmem:(aC a z).getD k default∈aC a z:=by
   rw[show(aC a z).getD k default=(aC a z)[k] by rw[List.getD_eq_getElem?_getD,List.getElem?_eq_getElem hlt];rfl];exact List.getElem_mem _
  have hp:=gi hmem
  obtain⟨ad2,ha2,hc2,_⟩:=(h.an.mono hV2).fD (i:=((aC a z).getD k default).aS.toNat) (by omega)
  refine⟨by omega,by omega,ad,ha,_,_,_,hc,fun _=>⟨by omega,by omega,ad2,ha2,_,hc2,ai (fun q V' =>q.1=(iK n (aC a z) (k+1):Nat)∧V' =V3) (aa (fun h0=>⟨au (by omega) (by omega), ?_,rfl⟩) (fun h0=>⟨?_,rfl⟩)) ?_⟩⟩
  ·rw[hms,if_pos (of_decide_eq_true h0)];rfl
  ·rw[hms,if_neg (of_decide_eq_false h0)];rfl
  ·rintro⟨q,⟨⟩⟩ V4 ⟨h1,hV⟩
   have h1:q=(iK n (aC a z) (k+1):Nat):=h1
   have hV:V4=V3:=hV
   subst h1 hV
   exact⟨au (by omega) (by omega),⟨rfl,k+1,by omega,by omega,rfl⟩,by omega⟩
 ·have hge:k=(aC a z).length:=by have:=of_decide_eq_false hge;omega
  subst hge
  exact⟨by rw[hE],hV2⟩
theorem xV {n:Nod} {s e:Sl} {a z:Int} {V:View} (h:dJ V s e n):af Tryz.prog 137 ⟨[eN n s e,.int .i64 a,.int .i64 z]⟩ V fun r V' =>r= .int .i64 (jt n a z:Nat)∧V.Le V' :=by
 refine Kl ?_
 unfold B6
 refine fun _=>ai (fun q V' =>q.1=(!decide (n.kind=1∧bA n=true))∧V' =V) (aa (fun hb=>⟨?_,rfl⟩) (fun hb=>(pK h).mono ?_)) ?_
 ·have hb:=of_decide_eq_false (aM hb)
  rw[decide_eq_false (fun h=>hb h.1)];rfl
 ·have hb:=of_decide_eq_true (aD hb)
  rintro r V1 ⟨rfl,rfl⟩
  refine⟨_,rfl, ?_,rfl⟩
  cases hm:bA n
  ·rw[decide_eq_false (fun h=>by cases h.2)]
  ·rw[decide_eq_true ⟨hb,rfl⟩]
 rintro⟨q,⟨⟩⟩ V1 ⟨h1,hV⟩
 have h1:q= !decide (n.kind=1∧bA n=true):=h1
 have hV:V1=V:=hV
 subst h1 hV
 dsimp only [unc]
 refine aa (fun hb=>⟨?_,View.Le.refl _⟩) (fun hb=> ?_)
 ·have hb:=of_decide_eq_false (aM hb)
  unfold jt;rw[if_neg hb];rfl
 have hb:=of_decide_eq_true (aD hb)
 have h5:=sU hb.2 hb.1
 have hE:jt n a z=iK n (aC a z) (aC a z).length:=by unfold jt;rw[if_pos hb]
 have hpl:=dL a z
 have hsn:=h.an.n
 refine jR.mono ?_
 rintro r V2 ⟨x,rfl,hx,hV2⟩
 have hxn:=hx.n
 refine⟨x,rfl, ?_⟩
 refine di (k:= .int .i64) (l:= .int .i64) (fun(c j:Int) V' =>V' =V2∧∃k:Nat,j=k∧k≤(aC a z).length∧c=(iK n (aC a z) k:Nat)) (fun _ (j:Int) _=>(aC a z).length-j.toNat) ⟨rfl,0,rfl,by omega,rfl⟩ ?_
 rintro(c j:Int) V3 ⟨rfl,k,rfl,hk,rfl⟩
 have hml:=qH n (aC a z) k
 refine aa (fun hlt=> ?_) (fun hge=> ?_)
 ·have hlt:k<(aC a z).length:=by have:=of_decide_eq_true hlt;omega
  have hms:=qG n hlt
  obtain⟨ad,ha,hc⟩:=hx.xR hlt
  have hmem:(aC a z).getD k default∈aC a z:=by
   rw[show(aC a z).getD k default=(aC a z)[k] by rw[List.getD_eq_getElem?_getD,List.getElem?_eq_getElem hlt];rfl];exact List.getElem_mem _
  have hp:=gi hmem
  obtain⟨ad2,ha2,hc2,_⟩:=(h.an.mono hV2).fD (i:=((aC a z).getD k default).aS.toNat) (by omega)
  refine⟨by omega,by omega,ad,ha,_,_,_,hc,fun _=>⟨by omega,by omega,ad2,ha2,_,hc2,ai (fun q V' =>q.1=(iK n (aC a z) (k+1):Nat)∧V' =V3) (aa (fun h0=>⟨au (by omega) (by omega), ?_,rfl⟩) (fun h0=>⟨?_,rfl⟩)) ?_⟩⟩
  ·rw[hms,if_pos (of_decide_eq_true h0)];rfl
  ·rw[hms,if_neg (of_decide_eq_false h0)];rfl
  ·rintro⟨q,⟨⟩⟩ V4 ⟨h1,hV⟩
   have h1:q=(iK n (aC a z) (k+1):Nat):=h1
   have hV:V4=V3:=hV
   subst h1 hV
   exact⟨au (by omega) (by omega),⟨rfl,k+1,by omega,by omega,rfl⟩,by omega⟩
 ·have hge:k=(aC a z).length:=by have:=of_decide_eq_false hge;omega
  subst hge
  exact⟨by rw[hE],hV2⟩
noncomputable def bL (t:Tre) (i:Int):Bool:=aY t&&decide (0≤i∧i<t.length∧ak t i.toNat=1)
theorem k9 {s:Sl} {t:Tre} {i:Int} {V:View} (h:SlR V s t):af Tryz.prog 70 ⟨[aZ s,.int .i64 i]⟩ V fun r V' =>r= .bool (bL t i)∧V.Le V' :=by
 refine Mx ?_
 unfold Hg
 have hn:=h.n
 refine fun _=>ai (fun q V' =>q.1=bL t i∧V.Le V') ((iI h).mono ?_) ?_
 ·rintro r V1 ⟨rfl,hV⟩
  refine⟨_,rfl,aa (fun hb=> ?_) (fun hb=>⟨?_,hV⟩)⟩
  ·simp at hb
   obtain⟨ad,sq,en,ha,hc,_⟩:=(h.mono hV).bO (i:=i.toNat) (by omega)
   refine⟨by omega,by omega,ad,ha,_,av hc 0 rfl, ?_,hV⟩
   unfold bL
   rw[hb.1.1,Bool.true_and]
   exact decide_eq_decide.2 ⟨fun h=>⟨by omega,by omega,h⟩,fun h=>h.2.2⟩
  ·unfold bL
   cases hm:aY t
   ·rfl
   ·rw[hm]at hb
    simp at hb
    rw[Bool.true_and,decide_eq_false]
    omega
 rintro⟨q,⟨⟩⟩ V1 ⟨h1,hV⟩
 have h1:q=bL t i:=h1
 have hV:V.Le V1:=hV
 subst h1
 exact⟨rfl,hV⟩
theorem nu {s:Sl} {t:Tre} {i:Int} {V:View} (h:SlR V s t):af Tryz.prog 133 ⟨[aZ s,.int .i64 i]⟩ V fun r V' =>r= .bool (bL t i)∧V.Le V' :=by
 refine Kh ?_
 unfold B2
 have hn:=h.n
 refine fun _=>ai (fun q V' =>q.1=bL t i∧V.Le V') ((dK h).mono ?_) ?_
 ·rintro r V1 ⟨rfl,hV⟩
  refine⟨_,rfl,aa (fun hb=> ?_) (fun hb=>⟨?_,hV⟩)⟩
  ·simp at hb
   obtain⟨ad,sq,en,ha,hc,_⟩:=(h.mono hV).bO (i:=i.toNat) (by omega)
   refine⟨by omega,by omega,ad,ha,_,av hc 0 rfl, ?_,hV⟩
   unfold bL
   rw[hb.1.1,Bool.true_and]
   exact decide_eq_decide.2 ⟨fun h=>⟨by omega,by omega,h⟩,fun h=>h.2.2⟩
  ·unfold bL
   cases hm:aY t
   ·rfl
   ·rw[hm]at hb
    simp at hb
    rw[Bool.true_and,decide_eq_false]
    omega
 rintro⟨q,⟨⟩⟩ V1 ⟨h1,hV⟩
 have h1:q=bL t i:=h1
 have hV:V.Le V1:=hV
 subst h1
 exact⟨rfl,hV⟩
theorem eE {t:Tre} {i:Int} (h:bL t i=true):aY t=true∧0≤i∧i<t.length∧ak t i.toNat=1:=by
 unfold bL at h
 have h:=Bool.and_eq_true_iff.1 h
 exact⟨h.1,of_decide_eq_true h.2⟩
noncomputable def dQ (t:Tre) (i a n:Int):Except Int (List Pce):=
 if bL t i=false∨a<0∨n<0 then .error 1 else .ok (aC a (rR (t.getD i.toNat default).size a n))
def FJ (V V' :View) (r:Value):Except Int (List Pce)→Prop
 | .ok l=>∃x:Sl,r= .tuple ⟨[.slice x.a x.n x.c,.int .i64 0]⟩∧SlR V' x l∧V.Le V'
 | .error e=>r= .tuple ⟨[.slice none 0 0,.int .i64 e]⟩∧V.Le V'
theorem vQ {s:Sl} {t:Tre} {i a n:Int} {V:View} (h:SlR V s t):af Tryz.prog 109 ⟨[aZ s,.int .i64 i,.int .i64 a,.int .i64 n]⟩ V fun r V' =>FJ V V' r (dQ t i a n):=by
 refine JU ?_
 unfold BD
 have hn:=h.n
 refine fun _=>(k9 h).mono ?_
 rintro r V1 ⟨rfl,hV1⟩
 refine⟨_,rfl,aa (fun hb=> ?_) (fun hb=> ?_)⟩
 ·have:bL t i=false∨a<0∨n<0:=by
   cases hq:bL t i<;>simp [hq]at hb ⊢ <;>omega
  unfold dQ;rw[if_pos this];exact⟨rfl,hV1⟩
 ·have hc:bL t i=true∧0≤a∧0≤n:=by
   cases hq:bL t i<;>simp [hq]at hb ⊢ <;>omega
  obtain⟨hm,h0,h1,hk⟩:=eE hc.1
  have hE:dQ t i a n= .ok (aC a (rR (t.getD i.toNat default).size a n)):=by
   unfold dQ;rw[if_neg];rintro(e | e | e)
   ·rw[hc.1]at e;cases e
   ·omega
   ·omega
  rw[hE]
  obtain⟨ad,sq,en,ha,hcc,hN⟩:=(h.mono hV1).bO (i:=i.toNat) (by omega)
  have hsz:=fj.1 hN.size
  refine⟨by omega,by omega,ad,ha,_,av hcc 2 rfl,(xS (by omega)).mono ?_⟩
  rintro r V2 ⟨rfl,rfl⟩
  refine⟨_,rfl,gx.mono ?_⟩
  rintro r V3 ⟨x,rfl,hx,hV3⟩
  exact⟨x,rfl,x,rfl,hx,hV1.trans hV3⟩
theorem xW {s:Sl} {t:Tre} {i a n:Int} {V:View} (h:SlR V s t):af Tryz.prog 88 ⟨[aZ s,.int .i64 i,.int .i64 a,.int .i64 n]⟩ V fun r V' =>FJ V V' r (dQ t i a n):=by
 refine MO ?_
 unfold HB
 have hn:=h.n
 refine fun _=>(nu h).mono ?_
 rintro r V1 ⟨rfl,hV1⟩
 refine⟨_,rfl,aa (fun hb=> ?_) (fun hb=> ?_)⟩
 ·have:bL t i=false∨a<0∨n<0:=by
   cases hq:bL t i<;>simp [hq]at hb ⊢ <;>omega
  unfold dQ;rw[if_pos this];exact⟨rfl,hV1⟩
 ·have hc:bL t i=true∧0≤a∧0≤n:=by
   cases hq:bL t i<;>simp [hq]at hb ⊢ <;>omega
  obtain⟨hm,h0,h1,hk⟩:=eE hc.1
  have hE:dQ t i a n= .ok (aC a (rR (t.getD i.toNat default).size a n)):=by
   unfold dQ;rw[if_neg];rintro(e | e | e)
   ·rw[hc.1]at e;cases e
   ·omega
   ·omega
  rw[hE]
  obtain⟨ad,sq,en,ha,hcc,hN⟩:=(h.mono hV1).bO (i:=i.toNat) (by omega)
  have hsz:=fj.1 hN.size
  refine⟨by omega,by omega,ad,ha,_,av hcc 2 rfl,(xT (by omega)).mono ?_⟩
  rintro r V2 ⟨rfl,rfl⟩
  refine⟨_,rfl,jR.mono ?_⟩
  rintro r V3 ⟨x,rfl,hx,hV3⟩
  exact⟨x,rfl,x,rfl,hx,hV1.trans hV3⟩
structure Tod where
 node:Int
 aS:Int
 old:Int
 keep:Int
 from_:Int
 data:List UInt8
instance:Inhabited Tod:=⟨⟨0,0,0,0,0,[]⟩⟩
structure uw (V:View) (y:Sl) (x:Tod):Prop where
 node:inI .i64 x.node
 aS:inI .i64 x.aS
 old:inI .i64 x.old
 keep:inI .i64 x.keep
 from_:inI .i64 x.from_
 data:SlR V y x.data
theorem uw.mono {V V' :View} {y:Sl} {x:Tod} (hV:V.Le V') (h:uw V y x):uw V' y x:=⟨h.node,h.aS,h.old,h.keep,h.from_,h.data.mono hV⟩
instance:Rep Tod where
 sz:=6
 pos:=by decide
 rep V vs x:=∃y:Sl,vs= [.int .i64 x.node,.int .i64 x.aS,.int .i64 x.old,.int .i64 x.keep,.int .i64 x.from_,.slice y.a y.n y.c]∧uw V y x
 len h:=by obtain⟨y,h,_⟩:=h;rw[h];rfl
 one h:=by obtain⟨y,h,_⟩:=h;rw[h];rfl
 mono hV h:=let ⟨y,h,k⟩:=h;⟨y,h,k.mono hV⟩
theorem SlR.vR {V:View} {s:Sl} {l:List Tod} (h:SlR V s l) {i:Nat} (hi:i<l.length):
  ∃ad y,s.a=some ad∧aq V (ad.add (i*6)) [.int .i64 (l.getD i default).node,.int .i64 (l.getD i default).aS,.int .i64 (l.getD i default).old,.int .i64 (l.getD i default).keep,.int .i64 (l.getD i default).from_,.slice y.a y.n y.c]∧uw V y (l.getD i default):=by
 obtain⟨ad,vs,ha,hc,y,e,hv⟩:=h.get i hi
 subst e
 rw[aB hi]
 exact⟨ad,y,ha,hc,hv⟩
theorem SlR.u8N {V:View} {s:Sl} {l:List UInt8} (h:SlR V s l) {i:Nat} (hi:i<l.length):
  ∃ad,s.a=some ad∧V.cell? (ad.add (i*1))=some (.int .u8 (l.getD i 0).toNat):=by
 obtain⟨ad,hx,ha,hc⟩:=h.u8 (x:=(i:Int)) (by omega) (by have:=h.n;omega)
 have e:l.getD i 0=l[i]:=by rw[List.getD_eq_getElem?_getD,List.getElem?_eq_getElem hi];rfl
 rw[e]
 exact⟨ad,ha,hc⟩
def M4 (x:Tod) (y:Sl):Value:= .agg ⟨[.int .i64 x.node,.int .i64 x.aS,.int .i64 x.old,.int .i64 x.keep,.int .i64 x.from_,.slice y.a y.n y.c]⟩
structure B8 (V V' :View) (r:Nat) (l:List UInt8):Prop where
 at_:V'.see r=some (.cells ⟨u8s l⟩ 5 (0,0))
 le:V.Le (V'.bt r)
theorem B8.vle {V V' :View} {r:Nat} {l:List UInt8} (h:B8 V V' r l):V.Le V' :=h.le.trans (View.c6 _ _)
theorem FK (l:List UInt8) (i:Nat) (b:UInt8):(u8s l).set i (.int .u8 b.toNat)=u8s (l.set i b):=by unfold u8s;rw[List.map_set]
theorem B8.set {V V' :View} {r:Nat} {l:List UInt8} (h:B8 V V' r l) {q:Nat} (hq:q<l.length) (b:UInt8):ay V' ((⟨r,0,none⟩:Addr).add (q*1)) 1∧B8 V (V'.sets ((⟨r,0,none⟩:Addr).add (q*1)) [.int .u8 b.toNat]) r (l.set q b):=by
 rw[aW]
 refine⟨bJ h.at_ (show 0+q*1+1≤_ by rw[eW];omega), ?_, ?_⟩
 ·rw[bn h.at_,View.ah,kB,Nat.zero_add,Nat.mul_one,FK]
 ·rw[bn h.at_]
  exact h.le.trans (aU r _)
theorem B8.slR {V V' :View} {r:Nat} {l:List UInt8} (h:B8 V V' r l) (hl:l.length≤1000):SlR V' ⟨some ⟨r,0,none⟩,l.length,l.length⟩ l:=
 bK (W:=V') h.at_ (cV l) (View.Le.refl _) (by omega)
def ju (f g:Nat→UInt8) (i:Nat):List UInt8:=(List.range 16).map fun k=>if k<i then f k else g k
theorem vS (f g:Nat→UInt8) (i:Nat):(ju f g i).length=16:=by unfold ju;simp
theorem vT (f g:Nat→UInt8) (i:Nat):(ju f g i).set i (f i)=ju f g (i+1):=by
 unfold ju
 apply List.ext_getElem
 ·simp
 ·intro j h1 h2
  rw[List.getElem_set]
  simp only [List.getElem_map,List.getElem_range]
  split
  ·rename_i e;subst e;rw[if_pos (by omega)]
  ·rename_i e
   by_cases hj:j<i
   ·rw[if_pos hj,if_pos (by omega)]
   ·rw[if_neg hj,if_neg (by omega)]
theorem sV {f g:Nat→UInt8} {i:Nat} (h:f i=g i):ju f g i=ju f g (i+1):=by
 unfold ju
 apply List.map_congr_left
 intro j _
 by_cases hj:j<i
 ·rw[if_pos hj,if_pos (by omega)]
 ·rw[if_neg hj]
  by_cases he:j=i
  ·subst he;rw[if_pos (by omega),h]
  ·rw[if_neg (by omega)]
theorem Db (f g:Nat→UInt8):ju f g 16=(List.range 16).map f:=by
 unfold ju
 apply List.map_congr_left
 intro j hj
 rw[if_pos (List.mem_range.1 hj)]
theorem sW (f g:Nat→UInt8):ju f g 0=(List.range 16).map g:=by
 unfold ju
 apply List.map_congr_left
 intro j _
 rw[if_neg (by omega)]
def fc (old:List UInt8) (x:Tod) (k:Nat):UInt8:=if(k:Int)<x.keep then old.getD k 0 else 0
def fK (old:List UInt8) (x:Tod) (m:Nat) (k:Nat):UInt8:=if x.from_≤k∧(k:Int)-x.from_<m then x.data.getD ((k:Int)-x.from_).toNat 0 else fc old x k
def kH (old:List UInt8) (x:Tod) (k:Nat):UInt8:=fK old x x.data.length k
def dj (old:List UInt8) (x:Tod):List UInt8:=(List.range 16).map (kH old x)
theorem jv (old:List UInt8) (x:Tod):(dj old x).length=16:=by unfold dj;simp
theorem copied {old:List UInt8} {x:Tod} {m:Nat} (hm:m=min (min (max x.keep 0).toNat old.length) 16):bD (u8s (List.replicate 16 0)) 0 (u8s (old.take m))=u8s ((List.range 16).map (fc old x)):=by
 rw[gv _ _ _ (by rw[eW,eW];simp;omega)]
 rw[List.take_zero,List.nil_append,Nat.zero_add,eW]
 unfold u8s
 rw[←List.map_drop, ←List.map_append]
 congr 1
 apply List.ext_getElem
 ·simp;omega
 ·intro j h1 h2
  have hj:j<16:=by simpa using h2
  have hml:(old.take m).length=m:=by simp;omega
  simp only [List.getElem_map,List.getElem_range]
  rw[List.getElem_append]
  unfold fc
  split
  ·rename_i h
   rw[hml]at h
   rw[List.getElem_take,if_pos (by omega),List.getD_eq_getElem?_getD,List.getElem?_eq_getElem (by omega)];rfl
  ·rename_i h
   rw[hml]at h
   rw[List.getElem_drop,List.getElem_replicate]
   split
   ·rename_i h3
    rw[List.getD_eq_getElem?_getD,List.getElem?_eq_none (by omega)];rfl
   ·rfl
theorem vU {s y:Sl} {old:List UInt8} {x:Tod} {V:View} (hs:SlR V s old) (hx:uw V y x) (hdl:x.data.length≤1000000):af Tryz.prog 35 ⟨[.slice s.a s.n s.c,M4 x y]⟩ V fun r V' =>∃b:Nat,V.size≤b∧r= .slice (some ⟨b,0,none⟩) 16 16∧B8 V V' b (dj old x):=by
 refine L2 ?_
 unfold GF
 have hn:=hs.n
 have hyn:=hx.data.n
 have hyl:=hx.data.lim
 have hf:=fj.1 hx.from_
 have hsc:=hs.c
 refine fun _=>⟨by decide,by decide,by decide,by decide,fun b hb=> ?_⟩
 have hfr:V.see b=none:=View.ax hb
 obtain⟨m0,hm0⟩:∃m0:Nat,(if(s.n:Int)<if 0>x.keep then 0 else x.keep then(s.n:Int)else if 0>x.keep then 0 else x.keep)=m0∧m0=min (max x.keep 0).toNat old.length:=by
  refine⟨min (max x.keep 0).toNat old.length, ?_,rfl⟩
  split<;>split at* <;>omega
 rw[hm0.1]
 have hB:B8 V ((V.put b (.cells ⟨u8s (List.replicate 16 0)⟩ 5 (0,0))).sets ⟨b,0,none⟩ (u8s (old.take (min m0 16)))) b (ju (kH old x) (fc old x) 0):=by
  have h1:(V.put b (.cells ⟨u8s (List.replicate 16 0)⟩ 5 (0,0))).see b=some (.cells ⟨u8s (List.replicate 16 0)⟩ 5 (0,0)):=View.ah _ _ _
  rw[bn h1,copied (by rw[hm0.2]),sW]
  exact⟨View.ah _ _ _,(aT hfr (View.Le.refl _)).trans (aU b _)⟩
 refine⟨by omega,by omega,by omega,u8s (old.take (min m0 16)), ?_,uj _, ?_, ?_⟩
 ·rw[cu,ite_self]
  have:=((hs.mono (View.bB (o:= .cells ⟨u8s (List.replicate 16 0)⟩ 5 (0,0)) hfr)).take (j:=min m0 16) (by omega)).FE
  rw[show min ((m0:Int).toNat-0) 16=min m0 16 by omega]
  exact this
 ·exact bJ (View.ah _ _ _) (by rw[eW];simp;omega)
 refine bh (k:= .int .i64) (fun(j:Int) V1=>∃i:Nat,j=i∧i≤16∧B8 V V1 b (ju (kH old x) (fc old x) i)) (fun(j:Int) _=>16-j.toNat) ⟨0,rfl,by omega,hB⟩ ?_
 rintro(j:Int) V1 ⟨i,rfl,hi,hM⟩
 refine aa (fun hlt=> ?_) (fun hge=> ?_)
 ·have hlt:i<16:=by have:=of_decide_eq_true hlt;omega
  obtain⟨f,hf1⟩:∃f:Int,(if 0-(y.n:Int)>x.from_ then 0-(y.n:Int)else x.from_)=f∧f=max x.from_ (-(x.data.length:Int)):=⟨max x.from_ (-(x.data.length:Int)),by split<;>omega,rfl⟩
  rw[hf1.1]
  have hf2:=hf1.2
  refine⟨au (by omega) (by omega),au (by omega) (by omega),ai (fun _ V2=>B8 V V2 b (ju (kH old x) (fc old x) (i+1))) (aa (fun hb=> ?_) (fun hb=> ?_)) ?_⟩
  ·have hc:0≤(i:Int)-f∧(i:Int)-f<y.n:=by
    by_cases h0:0≤(i:Int)-f
    ·rw[decide_eq_true h0]at hb;exact⟨h0,of_decide_eq_true hb⟩
    ·rw[decide_eq_false h0]at hb;cases hb
   have hff:f=x.from_:=by omega
   subst hff
   obtain⟨ad,ha,hcc⟩:=(hx.data.mono hM.vle).u8N (i:=((i:Int)-x.from_).toNat) (by omega)
   obtain⟨h1,h2⟩:=hM.set (q:=i) (by rw[vS];omega) (kH old x i)
   rw[vT]at h2
   have hm:kH old x i=x.data.getD ((i:Int)-x.from_).toNat 0:=by
    unfold kH fK;rw[if_pos (by omega)]
   rw[hm]at h2
   exact⟨by omega,by omega,ad,ha,_,hcc,by omega,by omega,_,rfl,h1,h2⟩
  ·have hc:¬(0≤(i:Int)-f∧(i:Int)-f<y.n):=by
    rintro⟨h0,h1⟩
    rw[decide_eq_true h0,decide_eq_true h1]at hb;cases hb
   rw[←sV]
   ·exact hM
   ·unfold kH fK;rw[if_neg (by omega)]
  ·rintro⟨⟩ V2 hM2
   exact⟨au (by omega) (by omega),⟨i+1,by omega,by omega,hM2⟩,by omega⟩
 ·have hge:i=16:=by have:=of_decide_eq_false hge;omega
  subst hge
  rw[Db]at hM
  exact⟨b,hb,rfl,hM⟩
theorem Ac {old:List UInt8} {x:Tod} {j k:Nat} (hk:x.from_+j=k) (hk16:k<16):((List.range 16).map (fK old x j)).set k (x.data.getD j 0)=(List.range 16).map (fK old x (j+1)):=by
 apply List.ext_getElem
 ·simp
 ·intro n h1 h2
  rw[List.getElem_set]
  simp only [List.getElem_map,List.getElem_range]
  unfold fK
  split
  ·rename_i e
   subst e
   rw[if_pos (by omega)]
   congr 1;omega
  ·rename_i e
   by_cases hc:x.from_≤n∧(n:Int)-x.from_<j
   ·rw[if_pos hc,if_pos (by omega)]
   ·rw[if_neg hc,if_neg (by omega)]
theorem qI {old:List UInt8} {x:Tod} {j m:Nat} (h:∀k:Nat,k<16→x.from_≤(k:Int)→(k:Int)-x.from_<m→(k:Int)-x.from_<j) (hjm:j≤m):(List.range 16).map (fK old x j)=(List.range 16).map (fK old x m):=by
 apply List.map_congr_left
 intro n hn
 have hn:=List.mem_range.1 hn
 unfold fK
 by_cases hc:x.from_≤n∧(n:Int)-x.from_<j
 ·rw[if_pos hc,if_pos (by omega)]
 ·rw[if_neg hc,if_neg]
  rintro⟨h1,h2⟩
  exact hc ⟨h1,h n hn h1 h2⟩
theorem xX {s y:Sl} {old:List UInt8} {x:Tod} {V:View} (hs:SlR V s old) (hx:uw V y x) (hdl:x.data.length≤1000000):af Tryz.prog 138 ⟨[.slice s.a s.n s.c,M4 x y]⟩ V fun r V' =>∃b:Nat,V.size≤b∧r= .slice (some ⟨b,0,none⟩) 16 16∧B8 V V' b (dj old x):=by
 refine Km ?_
 unfold B7
 have hn:=hs.n
 have hyn:=hx.data.n
 have hyl:=hx.data.lim
 have hf:=fj.1 hx.from_
 refine fun _=>⟨by decide,by decide,by decide,by decide,fun b hb=> ?_⟩
 have hfr:V.see b=none:=View.ax hb
 obtain⟨m0,hm0⟩:∃m0:Nat,(if 16<(s.n:Int)then 16 else(s.n:Int))=m0∧m0=min old.length 16:=by
  refine⟨min old.length 16, ?_,rfl⟩
  split<;>omega
 rw[hm0.1]
 have hm2:=hm0.2
 have hB:B8 V (V.put b (.cells ⟨u8s (List.replicate 16 0)⟩ 5 (0,0))) b (ju (fc old x) (fun _=>0) 0):=by
  rw[sW]
  exact⟨View.ah _ _ _,aT hfr (View.Le.refl _)⟩
 refine bh (k:= .int .i64) (fun(j:Int) V1=>∃i:Nat,j=i∧i≤m0∧B8 V V1 b (ju (fc old x) (fun _=>0) i)) (fun(j:Int) _=>m0-j.toNat) ⟨0,rfl,by omega,hB⟩ ?_
 rintro(j:Int) V1 ⟨i,rfl,hi,hM⟩
 refine aa (fun hlt=> ?_) (fun hge=> ?_)
 ·have hlt:i<m0:=by have:=of_decide_eq_true hlt;omega
  refine ai (fun _ V2=>B8 V V2 b (ju (fc old x) (fun _=>0) (i+1))) (aa (fun hb=> ?_) (fun hb=> ?_)) ?_
  ·have hb:=of_decide_eq_true hb
   obtain⟨ad,ha,hcc⟩:=(hs.mono hM.vle).u8N (i:=i) (by omega)
   obtain⟨h1,h2⟩:=hM.set (q:=i) (by rw[vS];omega) (fc old x i)
   rw[vT]at h2
   have hm:fc old x i=old.getD i 0:=by unfold fc;rw[if_pos hb]
   rw[hm]at h2
   exact⟨by omega,by omega,ad,ha,_,hcc,by omega,by omega,_,rfl,h1,h2⟩
  ·have hb:=of_decide_eq_false hb
   rw[←sV]
   ·exact hM
   ·unfold fc;rw[if_neg hb]
  ·rintro⟨⟩ V2 hM2
   exact⟨au (by omega) (by omega),⟨i+1,by omega,by omega,hM2⟩,by omega⟩
 ·have hge:i=m0:=by have:=of_decide_eq_false hge;omega
  have hfull:ju (fc old x) (fun _=>0) i=(List.range 16).map (fK old x 0):=by
   unfold ju
   apply List.map_congr_left
   intro k hk
   have hk:=List.mem_range.1 hk
   unfold fK
   rw[if_neg (show ¬(x.from_≤k∧(k:Int)-x.from_<(0:Nat)) by omega)]
   split
   ·rfl
   ·unfold fc
    split
    ·rw[List.getD_eq_getElem?_getD,List.getElem?_eq_none (by omega)];rfl
    ·rfl
  rw[hfull]at hM
  refine ai (fun _ V2=>B8 V V2 b (dj old x)) ?_ (by rintro⟨⟩ V2 h;exact⟨b,hb,rfl,h⟩)
  refine bh (k:= .int .i64) (fun(j:Int) V1=>∃i:Nat,j=i∧i≤x.data.length∧B8 V V1 b ((List.range 16).map (fK old x i))) (fun(j:Int) _=>x.data.length-j.toNat) ⟨0,rfl,by omega,hM⟩ ?_
  rintro(j:Int) V1 ⟨i,rfl,hi,hM⟩
  refine aa (fun hlt=> ?_) (fun hge=> ?_)
  ·have hlt:i<x.data.length:=by have:=of_decide_eq_true hlt;omega
   obtain⟨ad,ha,hcc⟩:=(hx.data.mono hM.vle).u8N (i:=i) (by omega)
   refine⟨by omega,by omega,ad,ha,_,hcc,ai (fun q V2=>q.1=decide (16<x.from_∨x.from_< -(x.data.length:Int))∧V2=V1) (aa (fun h=>⟨?_,rfl⟩) (fun h=>⟨au (by omega) (by omega), ?_,rfl⟩)) ?_⟩
   ·rw[decide_eq_true (.inl (of_decide_eq_true h))]
   ·have h:=of_decide_eq_false h
    exact decide_eq_decide.2 (by omega)
   rintro⟨q,⟨⟩⟩ V2 ⟨h1,hV⟩
   have h1:q=decide (16<x.from_∨x.from_< -(x.data.length:Int)):=h1
   have hV:V2=V1:=hV
   subst h1 hV
   dsimp only [unc]
   refine aa (fun h=> ?_) (fun h=>⟨au ?_ ?_,ai (fun _ V3=>B8 V V3 b ((List.range 16).map (fK old x (i+1)))) (aa (fun hc=> ?_) (fun hc=> ?_)) ?_⟩)
   ·have h:=of_decide_eq_true h
    have e:(List.range 16).map (fK old x i)=dj old x:=qI (by intro k hk h1 h2;omega) hi
    rw[e]at hM;exact hM
   ·have:=of_decide_eq_false h;omega
   ·have:=of_decide_eq_false h;omega
   ·have hc:0≤x.from_+i∧x.from_+i<16:=by
     by_cases h0:0≤x.from_+(i:Int)
     ·rw[decide_eq_true h0]at hc;exact⟨h0,of_decide_eq_true hc⟩
     ·rw[decide_eq_false h0]at hc;cases hc
    obtain⟨h1,h2⟩:=hM.set (q:=(x.from_+i).toNat) (by simp;omega) (x.data.getD i 0)
    rw[Ac (by omega) (by omega)]at h2
    exact⟨by omega,by omega,_,rfl,h1,h2⟩
   ·have hc:¬(0≤x.from_+i∧x.from_+i<16):=by
     rintro⟨h0,h1⟩
     rw[decide_eq_true h0,decide_eq_true h1]at hc;cases hc
    rw[←qI (j:=i) (m:=i+1) (by intro k hk h1 h2;omega) (by omega)]
    exact hM
   ·rintro⟨⟩ V3 hM2
    exact⟨au (by omega) (by omega),⟨i+1,by omega,by omega,hM2⟩,by omega⟩
  ·have hge:i=x.data.length:=by have:=of_decide_eq_false hge;omega
   subst hge
   exact hM
end Go.Proofs.YtoogangnldppaaaGreatDoor
/- Contracts of the library's functions at this seat's program: laid by the kit's own tools (lay-shelf, lay-plain), those that are used. -/
namespace Go.Proofs
open Go.Shelf
def Tryz.oU:Go.Shelf.Ren:=⟨fun | 156=>199 | 165=>205 | 166=>206 | 169=>207 | 240=>213 | 241=>214 | 276=>217 | 277=>218 | n=>n,fun | 31=>30 | 9=>9 | 3=>3 | 4=>4 | 0=>0 | 20=>20 | 72=>205 | 76=>209 | 70=>203 | 37=>23 | 75=>208 | 127=>212 | 164=>218 | 5=>5 | 80=>211 | n=>n,fun | n=>n⟩
theorem Tryz.zl:Go.Proofs.Lays.n156 Tryz.prog Tryz.oU:= {
 mixed:=by kernel_rfl
 f156:=Tryz.func199.trans (congrArg some (by kernel_rfl))
 f165:=Tryz.func205.trans (congrArg some (by kernel_rfl))
 f166:=Tryz.func206.trans (congrArg some (by kernel_rfl))
 f169:=Tryz.func207.trans (congrArg some (by kernel_rfl))
 f240:=Tryz.func213.trans (congrArg some (by kernel_rfl))
 f241:=Tryz.func214.trans (congrArg some (by kernel_rfl))
 f276:=Tryz.func217.trans (congrArg some (by kernel_rfl))
 f277:=Tryz.func218.trans (congrArg some (by kernel_rfl))
 t0:=Tryz.underlying0
 a0:=Tryz.isAgg0
 z0:=Tryz.sizeOf0
 v0:=Tryz.zeroValue0
 t3:=Tryz.underlying3
 a3:=Tryz.isAgg3
 z3:=Tryz.sizeOf3
 v3:=Tryz.zeroValue3
 t4:=Tryz.underlying4
 a4:=Tryz.isAgg4
 z4:=Tryz.sizeOf4
 v4:=Tryz.zeroValue4
 t9:=Tryz.underlying9
 a9:=Tryz.isAgg9
 z9:=Tryz.sizeOf9
 v9:=Tryz.zeroValue9
 t20:=Tryz.underlying20
 a20:=Tryz.isAgg20
 z20:=Tryz.sizeOf20
 v20:=Tryz.zeroValue20
 t31:=Tryz.underlying30
 a31:=Tryz.isAgg30
 z31:=Tryz.sizeOf30
 v31:=Tryz.zeroValue30
 t37:=Tryz.underlying23
 a37:=Tryz.isAgg23
 z37:=Tryz.sizeOf23
 v37:=Tryz.zeroValue23
 t70:=Tryz.underlying203
 a70:=Tryz.isAgg203
 z70:=Tryz.sizeOf203
 v70:=Tryz.zeroValue203
 t72:=Tryz.underlying205
 a72:=Tryz.isAgg205
 z72:=Tryz.sizeOf205
 v72:=Tryz.zeroValue205
 t75:=Tryz.underlying208
 a75:=Tryz.isAgg208
 z75:=Tryz.sizeOf208
 v75:=Tryz.zeroValue208
 t76:=Tryz.underlying209
 a76:=Tryz.isAgg209
 z76:=Tryz.sizeOf209
 v76:=Tryz.zeroValue209
 t127:=Tryz.underlying212
 a127:=Tryz.isAgg212
 z127:=Tryz.sizeOf212
 v127:=Tryz.zeroValue212
 t164:=Tryz.underlying218
 a164:=Tryz.isAgg218
 z164:=Tryz.sizeOf218
 v164:=Tryz.zeroValue218 }
theorem Tryz.iL:Builder.Extra Tryz.prog Tryz.oU:= {
 sizeBuilder:=by kernel_rfl
 liesBuilder:=by kernel_rfl
 t5:=Tryz.underlying5
 a5:=Tryz.isAgg5
 z5:=Tryz.sizeOf5
 v5:=Tryz.zeroValue5
 infoByte:=by kernel_rfl
 cellsByte:=by kernel_rfl
 sizeByte:=by kernel_rfl
 neB5:=by decide }
open Go.RowKit in
theorem Tryz.strings_Join_none (a:Option Addr) (c:Nat) (sep:ByteArray) (w:World):
  Calls Tryz.prog 199 #[.slice a 0 c,.string sep] w fun e w' =>e= .returned (.string ⟨#[]⟩)∧w' =w:=Any.strings_Join_none Tryz.zl Tryz.iL a c sep w
open Go.RowKit in
theorem Tryz.strings_Join (bk o c:Nat) (xs:List ByteArray) (sep:ByteArray) (w:World) (hcells:∀(j:Nat) x,xs[j]? =some x→w.cell? ⟨bk,o+j,none⟩=some (.string x)) (hbk:bk<w.heap.size) (hN:xs.length≤140737488355328) (hcap:xs.length≤c) (hlen:(Lib.join (xs.map (·.data.toList)) sep.data.toList).length≤140737488355328):
  Calls Tryz.prog 199 #[.slice (some ⟨bk,o,none⟩) xs.length c,.string sep] w fun e w' =>e= .returned (.string ⟨(Lib.join (xs.map (·.data.toList)) sep.data.toList).toArray⟩)∧Below w.heap.size w w' :=Any.strings_Join Tryz.zl Tryz.iL bk o c xs sep w hcells hbk hN hcap hlen
def Tryz.vV:Go.Shelf.Ren:=⟨fun | 103=>174 | 210=>188 | 206=>195 | n=>n,fun | 9=>9 | 4=>4 | 24=>177 | 3=>3 | n=>n,fun | n=>n⟩
theorem Tryz.FL:Go.Proofs.Lays.n103 Tryz.prog Tryz.vV:= {
 mixed:=by kernel_rfl
 f103:=Tryz.func174.trans (congrArg some (by kernel_rfl))
 f206:=Tryz.func195.trans (congrArg some (by kernel_rfl))
 f210:=Tryz.func188.trans (congrArg some (by kernel_rfl))
 t3:=Tryz.underlying3
 a3:=Tryz.isAgg3
 z3:=Tryz.sizeOf3
 v3:=Tryz.zeroValue3
 t4:=Tryz.underlying4
 a4:=Tryz.isAgg4
 z4:=Tryz.sizeOf4
 v4:=Tryz.zeroValue4
 t9:=Tryz.underlying9
 a9:=Tryz.isAgg9
 z9:=Tryz.sizeOf9
 v9:=Tryz.zeroValue9
 t24:=Tryz.underlying177
 a24:=Tryz.isAgg177
 z24:=Tryz.sizeOf177
 v24:=Tryz.zeroValue177 }
open Go.RowKit in
theorem Tryz.strings_CutPrefix (s p:ByteArray) (w:World):
  Calls Tryz.prog 174 #[.string s,.string p] w fun e w' =>e= .returned (.tuple #[.string ⟨(Lib.trimPrefix s.data.toList p.data.toList).toArray⟩,.bool (Lib.hasPrefix s.data.toList p.data.toList)])∧w' =w:=Any.strings_CutPrefix Tryz.FL s p w
def Tryz.vW:Go.Shelf.Ren:=⟨fun | 146=>175 | 221=>189 | 268=>196 | 138=>197 | 143=>198 | 195=>201 | 197=>202 | 218=>203 | 219=>204 | 260=>208 | 217=>209 | 225=>210 | 224=>211 | 267=>212 | 266=>215 | 314=>216 | n=>n,fun | 9=>9 | 31=>30 | 3=>3 | 4=>4 | 0=>0 | 105=>200 | 21=>21 | 5=>5 | 46=>129 | 119=>213 | 139=>216 | 138=>215 | 146=>154 | 51=>153 | n=>n,fun | 1=>0 | 3=>1 | 4=>2 | n=>n⟩
theorem Tryz.FM:Go.Proofs.Lays.n146 Tryz.prog Tryz.vW:= {
 mixed:=by kernel_rfl
 f138:=Tryz.func197.trans (congrArg some (by kernel_rfl))
 f143:=Tryz.func198.trans (congrArg some (by kernel_rfl))
 f146:=Tryz.func175.trans (congrArg some (by kernel_rfl))
 f195:=Tryz.func201.trans (congrArg some (by kernel_rfl))
 f197:=Tryz.func202.trans (congrArg some (by kernel_rfl))
 f217:=Tryz.func209.trans (congrArg some (by kernel_rfl))
 f218:=Tryz.func203.trans (congrArg some (by kernel_rfl))
 f219:=Tryz.func204.trans (congrArg some (by kernel_rfl))
 f221:=Tryz.func189.trans (congrArg some (by kernel_rfl))
 f224:=Tryz.func211.trans (congrArg some (by kernel_rfl))
 f225:=Tryz.func210.trans (congrArg some (by kernel_rfl))
 f260:=Tryz.func208.trans (congrArg some (by kernel_rfl))
 f266:=Tryz.func215.trans (congrArg some (by kernel_rfl))
 f267:=Tryz.func212.trans (congrArg some (by kernel_rfl))
 f268:=Tryz.func196.trans (congrArg some (by kernel_rfl))
 f314:=Tryz.func216.trans (congrArg some (by kernel_rfl))
 t0:=Tryz.underlying0
 a0:=Tryz.isAgg0
 z0:=Tryz.sizeOf0
 v0:=Tryz.zeroValue0
 t3:=Tryz.underlying3
 a3:=Tryz.isAgg3
 z3:=Tryz.sizeOf3
 v3:=Tryz.zeroValue3
 t4:=Tryz.underlying4
 a4:=Tryz.isAgg4
 z4:=Tryz.sizeOf4
 v4:=Tryz.zeroValue4
 t5:=Tryz.underlying5
 a5:=Tryz.isAgg5
 z5:=Tryz.sizeOf5
 v5:=Tryz.zeroValue5
 t9:=Tryz.underlying9
 a9:=Tryz.isAgg9
 z9:=Tryz.sizeOf9
 v9:=Tryz.zeroValue9
 t21:=Tryz.underlying21
 a21:=Tryz.isAgg21
 z21:=Tryz.sizeOf21
 v21:=Tryz.zeroValue21
 t31:=Tryz.underlying30
 a31:=Tryz.isAgg30
 z31:=Tryz.sizeOf30
 v31:=Tryz.zeroValue30
 t46:=Tryz.underlying129
 a46:=Tryz.isAgg129
 z46:=Tryz.sizeOf129
 v46:=Tryz.zeroValue129
 t51:=Tryz.underlying153
 a51:=Tryz.isAgg153
 z51:=Tryz.sizeOf153
 v51:=Tryz.zeroValue153
 t105:=Tryz.underlying200
 a105:=Tryz.isAgg200
 z105:=Tryz.sizeOf200
 v105:=Tryz.zeroValue200
 t119:=Tryz.underlying213
 a119:=Tryz.isAgg213
 z119:=Tryz.sizeOf213
 t138:=Tryz.underlying215
 a138:=Tryz.isAgg215
 z138:=Tryz.sizeOf215
 v138:=Tryz.zeroValue215
 t139:=Tryz.underlying216
 a139:=Tryz.isAgg216
 z139:=Tryz.sizeOf216
 v139:=Tryz.zeroValue216
 t146:=Tryz.underlying154
 a146:=Tryz.isAgg154
 z146:=Tryz.sizeOf154
 v146:=Tryz.zeroValue154
 g1:=by kernel_rfl
 g3:=by kernel_rfl
 g4:=by kernel_rfl }
open Go.RowKit Go.Lib in
theorem Tryz.strings_Split (s sep:ByteArray) (m:Int) (w:World) (hs:s.size<4294967281) (hm:w.cell? ⟨0,0,none⟩=some (.int .i64 m)) (h1:1≤sep.size):
  Calls Tryz.prog 175 #[.string s,.string sep] w fun e w' =>
   e= .returned (.slice (some ⟨w.heap.size,0,none⟩) (Lib.countB s sep+1) (Lib.countB s sep+1))∧w' =w.alloc (.cells ((Lib.splitB sep 0 (Lib.countB s sep) s).map Value.string).toArray 9):=Any.strings_Split Tryz.FM (by kernel_rfl) s sep m w hs hm h1
def Tryz.ux:Go.Shelf.Ren:=⟨fun | 146=>175 | 221=>189 | 268=>196 | 138=>197 | 143=>198 | 195=>201 | 197=>202 | 218=>203 | 219=>204 | 260=>208 | 217=>209 | 225=>210 | 224=>211 | 267=>212 | 266=>215 | 314=>216 | n=>n,fun | 9=>9 | 31=>30 | 3=>3 | 4=>4 | 0=>0 | 105=>200 | 21=>21 | 5=>5 | 46=>129 | 119=>213 | 139=>216 | 138=>215 | 146=>154 | 51=>153 | n=>n,fun | 1=>0 | 3=>1 | 4=>2 | n=>n⟩
theorem Tryz.Dc:Go.Proofs.LaysM.n146 Tryz.prog Tryz.ux:= {
 mixed:=by kernel_rfl
 f138:=Tryz.func197.trans (congrArg some (by kernel_rfl))
 f143:=Tryz.func198.trans (congrArg some (by kernel_rfl))
 f146:=Tryz.func175.trans (congrArg some (by kernel_rfl))
 f195:=Tryz.func201.trans (congrArg some (by kernel_rfl))
 f197:=Tryz.func202.trans (congrArg some (by kernel_rfl))
 f217:=Tryz.func209.trans (congrArg some (by kernel_rfl))
 f218:=Tryz.func203.trans (congrArg some (by kernel_rfl))
 f219:=Tryz.func204.trans (congrArg some (by kernel_rfl))
 f221:=Tryz.func189.trans (congrArg some (by kernel_rfl))
 f224:=Tryz.func211.trans (congrArg some (by kernel_rfl))
 f225:=Tryz.func210.trans (congrArg some (by kernel_rfl))
 f260:=Tryz.func208.trans (congrArg some (by kernel_rfl))
 f266:=Tryz.func215.trans (congrArg some (by kernel_rfl))
 f267:=Tryz.func212.trans (congrArg some (by kernel_rfl))
 f268:=Tryz.func196.trans (congrArg some (by kernel_rfl))
 f314:=Tryz.func216.trans (congrArg some (by kernel_rfl))
 t0:=Tryz.underlying0
 a0:=Tryz.isAgg0
 z0:=Tryz.sizeOf0
 v0:=Tryz.zeroValue0
 t3:=Tryz.underlying3
 a3:=Tryz.isAgg3
 z3:=Tryz.sizeOf3
 v3:=Tryz.zeroValue3
 t4:=Tryz.underlying4
 a4:=Tryz.isAgg4
 z4:=Tryz.sizeOf4
 v4:=Tryz.zeroValue4
 t5:=Tryz.underlying5
 a5:=Tryz.isAgg5
 z5:=Tryz.sizeOf5
 v5:=Tryz.zeroValue5
 t9:=Tryz.underlying9
 a9:=Tryz.isAgg9
 z9:=Tryz.sizeOf9
 v9:=Tryz.zeroValue9
 t21:=Tryz.underlying21
 a21:=Tryz.isAgg21
 z21:=Tryz.sizeOf21
 v21:=Tryz.zeroValue21
 t31:=Tryz.underlying30
 a31:=Tryz.isAgg30
 z31:=Tryz.sizeOf30
 v31:=Tryz.zeroValue30
 t46:=Tryz.underlying129
 a46:=Tryz.isAgg129
 z46:=Tryz.sizeOf129
 v46:=Tryz.zeroValue129
 t51:=Tryz.underlying153
 a51:=Tryz.isAgg153
 z51:=Tryz.sizeOf153
 v51:=Tryz.zeroValue153
 t105:=Tryz.underlying200
 a105:=Tryz.isAgg200
 z105:=Tryz.sizeOf200
 v105:=Tryz.zeroValue200
 t119:=Tryz.underlying213
 a119:=Tryz.isAgg213
 z119:=Tryz.sizeOf213
 t138:=Tryz.underlying215
 a138:=Tryz.isAgg215
 z138:=Tryz.sizeOf215
 v138:=Tryz.zeroValue215
 t139:=Tryz.underlying216
 a139:=Tryz.isAgg216
 z139:=Tryz.sizeOf216
 v139:=Tryz.zeroValue216
 t146:=Tryz.underlying154
 a146:=Tryz.isAgg154
 z146:=Tryz.sizeOf154
 v146:=Tryz.zeroValue154
 g1:=by kernel_rfl
 g3:=by kernel_rfl
 g4:=by kernel_rfl
 i0:=by kernel_rfl
 i3:=by kernel_rfl
 i4:=by kernel_rfl
 i5:=by kernel_rfl
 i9:=by kernel_rfl
 i21:=by kernel_rfl
 i31:=by kernel_rfl
 i46:=by kernel_rfl
 i51:=by kernel_rfl
 i105:=by kernel_rfl
 i138:=by kernel_rfl
 i139:=by kernel_rfl
 i146:=by kernel_rfl
 m1:=by kernel_rfl
 s1_3:=fun w h=>Go.Proofs.cell_of_shapedOpen_int (zero:= #[.int .i64 0]) (t:=3) h (of_decide_eq_true (by kernel_rfl)) (by kernel_rfl) rfl (by kernel_rfl) (by kernel_rfl) Tryz.underlying3
 m3:=by kernel_rfl
 m4:=by kernel_rfl }
end Go.Proofs
/- Contracts of the library's functions over views. -/
namespace Go.Proofs.YtoogangnldppaaaGreatDoor
open Go Go.RowKit
def Glo (V:View):Prop:=∃m:Int,V.cell? ⟨0,0,none⟩=some (.int .i64 m)
theorem Glo.mono {V V' :View} (h:V.Le V') (g:Glo V):Glo V' :=let ⟨m,hm⟩:=g;⟨m,h.cell hm⟩
theorem af.quiet {P:Program} {f:FuncId} {args:Array Value} {V:View} {r:Value} (he:Enters P f) (h:∀w,V.In w→Calls P f args w fun e w' =>e= .returned r∧w' =w):
  af P f args V fun r' V' =>r' =r∧V' =V:=
 ⟨he,fun w hw=>(h w hw).mono fun e w' ⟨h1,h2⟩=>⟨r,V,h1,by rw[h2];exact hw,by rw[h2];exact Fr.refl V w,rfl,rfl⟩⟩
theorem af.below {P:Program} {f:FuncId} {args:Array Value} {V:View} {r:Value} (he:Enters P f) (h:∀w,V.In w→Calls P f args w fun e w' =>e= .returned r∧Below w.heap.size w w'):
  af P f args V fun r' V' =>r' =r∧V' =V:=
 ⟨he,fun w hw=>(h w hw).mono fun e w' ⟨h1,h2⟩=>⟨r,V,h1,
  ⟨Nat.le_trans hw.size h2.size,fun i o ho=>by
   have:=hw.see i o ho
   rw[h2.block i (ep this)];exact this,by
   have:=hw.out
   unfold World.outer at*
   rw[h2.os,h2.tape,h2.output];exact this⟩,⟨h2.size,fun i hi hn=>⟨hn,h2.block i hi⟩,fun h=>(show False from h).elim⟩,rfl,rfl⟩⟩
theorem uy {s:ByteArray} {V:View} :af Tryz.prog 174 ⟨[.string s,.string (ba [47])]⟩ V fun r V' =>
  r= .tuple ⟨[.string (ba (Lib.trimPrefix (bl s) [47])),.bool (Lib.hasPrefix (bl s) [47])]⟩∧V' =V:=
 af.quiet (enters_of (fn:=Tryz.f174) (by kernel_rfl) (by kernel_rfl) (by kernel_rfl)) fun w _=>Tryz.strings_CutPrefix s (ba [47]) w
theorem vX {s:ByteArray} {V:View} (hs:s.size<4294967281) (hg:Glo V):af Tryz.prog 175 ⟨[.string s,.string (ba [47])]⟩ V fun r V' =>
  ∃x:Sl,r= .slice x.a x.n x.c∧V.Le V' ∧SlR V' x ((aP (bl s)).map ba):=by
 refine⟨enters_of (fn:=Tryz.f175) (by kernel_rfl) (by kernel_rfl) (by kernel_rfl),fun w hw=> ?_⟩
 obtain⟨m,hm⟩:=hg
 refine(Tryz.strings_Split s (ba [47]) m w hs (hw.cell hm) (Nat.le_refl _)).mono fun e w' ⟨h1,h2⟩=> ?_
 have hlen:=Lib.splitB_all (ba [47]) (Nat.le_refl _) 0 _ s rfl
 rw[z6]at hlen h2
 have hle:=Lib.countB_le (ba [47]) (Nat.le_refl _) s.size s (Nat.le_refl _)
 have hfr:V.see w.heap.size=none:=View.ax hw.size
 have hnew:(View.put V w.heap.size (.cells (((aP (bl s)).map ba).map Value.string).toArray 9)).In w' :=by
  rw[h2]
  refine⟨?_,fun i o ho=> ?_,hw.out⟩
  ·show max V.size (w.heap.size+1)≤(w.heap.push _).size
   have:=hw.size;simp;omega
  ·by_cases e:i=w.heap.size
   ·subst e
    rw[View.ah]at ho;cases ho
    show(w.heap.push _)[w.heap.size]? =_
    simp
   ·rw[View.aF V _ e]at ho
    have:=hw.see i o ho
    show(w.heap.push _)[i]? =_
    rw[Array.getElem?_push,if_neg e];exact this
 refine⟨_,_,h1,hnew,⟨by rw[h2];show w.heap.size≤(w.heap.push _).size;simp,fun i hi hn=>⟨by rw[View.aF V _ (Nat.ne_of_lt hi)];exact hn,by
  rw[h2];show(w.heap.push _)[i]? =_;rw[Array.getElem?_push,if_neg (Nat.ne_of_lt hi)]⟩,fun h=>(show False from h).elim⟩,⟨_,_,_⟩,rfl,View.bB hfr, ?_⟩
 refine⟨hlen.symm,Nat.le_refl _,by show Lib.countB s (ba [47])+1≤_;omega,fun i hi=>⟨_,[.string ((aP (bl s)).map ba)[i]],rfl, ?_,rfl, ?_⟩⟩
 ·rw[aW]
  refine cQ (cs:=((aP (bl s)).map ba).map Value.string) (View.ah _ _ _) fun j v hj=> ?_
  cases j with
  | succ j=>simp at hj
  | zero=>
    simp only [List.getElem?_cons_zero,Option.some.injEq]at hj
    subst hj
    show(((aP (bl s)).map ba).map Value.string)[0+i*1+0]? =_
    rw[Nat.zero_add,Nat.mul_one,Nat.add_zero,List.getElem?_map,List.getElem?_eq_getElem hi];rfl
 ·have:∀t:List UInt8,∀x∈aP t,x.length≤t.length:=by
   intro t
   induction t with
   | nil=>intro x hx;simp [aP]at hx;simp [hx]
   | cons c t ih=>
     intro x hx
     unfold aP at hx
     split at hx
     ·rcases List.mem_cons.1 hx with rfl | hx
      ·simp
      ·have:=ih x hx;simp;omega
     ·split at hx
      ·rename_i h y he
       rcases List.mem_cons.1 hx with rfl | hx
       ·have:=ih h (by rw[he];simp);simp;omega
       ·have:=ih x (by rw[he];simp [hx]);simp;omega
      ·rename_i he;exact absurd he (k5 t)
  have hm:=this (bl s) _ (List.getElem_mem (by simpa using hi):(aP (bl s))[i]'(by simpa using hi)∈_)
  simp only [List.getElem_map,eX]
  rw[lX]at hm
  omega
theorem xY {x:Sl} {l:List ByteArray} {V:View} (h:SlR V x l) (hl:(Lib.join (l.map bl) [47]).length≤140737488355327):af Tryz.prog 199 ⟨[.slice x.a x.n x.c,.string (ba [47])]⟩ V fun r V' =>
  r= .string (ba (Lib.join (l.map bl) [47]))∧V' =V:=by
 have he:Enters Tryz.prog 199:=enters_of (fn:=Tryz.f199) (by kernel_rfl) (by kernel_rfl) (by kernel_rfl)
 cases l with
 | nil=>
   have h0:x.n=0:=h.n
   rw[h0]
   exact af.quiet he fun w _=>Tryz.strings_Join_none x.a x.c (ba [47]) w
 | cons y l=>
   obtain⟨ad,vs,ha,hc,hr⟩:=h.get 0 (by simp)
   obtain⟨rfl,_⟩:=hr
   rw[Nat.zero_mul,Addr.add_zero,bT]at hc
   obtain⟨b,off,sp⟩:=ad
   have hsp:sp=none:=by
    unfold View.cell? at hc
    split at hc
    ·split at hc
     ·cases hc
     ·rename_i hsp;simpa using hsp
    ·cases hc
   subst hsp
   have hb:∀w,V.In w→b<w.heap.size:=fun w hw=>by
    unfold View.cell? at hc
    split at hc
    ·rename_i hs
     exact Nat.lt_of_lt_of_le (V.lt _ _ hs) hw.size
    ·cases hc
   rw[ha,h.n]
   refine af.below he fun w hw=>Tryz.strings_Join b off x.c (y::l) (ba [47]) w (fun j z hj=> ?_) (hb w hw) (by
    rw[List.map_cons,Lib.join_length]at hl
    simp at hl ⊢
    omega) (by rw[←h.n];exact h.c) (Nat.le_trans hl (by decide))
   have hj' :=(List.getElem?_eq_some_iff.1 hj)
   obtain⟨ad,vs,ha',hc',hr'⟩:=h.get j hj'.1
   rw[ha]at ha';cases ha'
   obtain⟨rfl,_⟩:=hr'
   rw[bT,aW,hj'.2]at hc'
   have e1:Rep.sz ByteArray=1:=rfl
   rw[e1,Nat.mul_one]at hc'
   exact hw.cell hc'
end Go.Proofs.YtoogangnldppaaaGreatDoor
/- Contracts of package path. -/
namespace Go.Proofs.YtoogangnldppaaaGreatDoor
open Go
theorem Ad {s:ByteArray} {V:View} (hs:s.size≤9223372036854775807):af Tryz.prog 177 ⟨[.string s]⟩ V fun r V' =>r= .bool (!cG s)∧V' =V:=by
 refine KW ?_
 unfold CI
 refine(qp hs).mono ?_
 rintro r V' ⟨rfl,rfl⟩
 exact⟨_,rfl,rfl,rfl⟩
theorem rU {p:ByteArray→Bool} {s:Sl} {l:List ByteArray} {V:View} {g:FuncId} {xs ys:List Value} (h:SlR V s l)
  (hp:∀b∈l,af Tryz.prog g ⟨xs++ [.string b]++ys⟩ V fun r V' =>r= .bool (p b)∧V' =V):
  af Tryz.prog 190 ⟨[.slice s.a s.n s.c,.func (.func g) ⟨xs⟩ ⟨ys⟩]⟩ V fun r V' =>r= .int .i64 (eR p l)∧V' =V:=by
 refine K7 ?_
 unfold CT
 have hn:=h.n;have hlim:=h.lim
 refine bh (k:= .int .i64) (fun(x:Int) V' =>V' =V∧0≤x∧x≤s.n∧∀j (hj:j<l.length),(j:Int)<x→p l[j]=false) (fun(x:Int) _=>s.n-x.toNat) ⟨rfl,by omega,by omega,fun j _ hj=>by omega⟩ ?_
 rintro(x:Int) V' ⟨rfl,h0,h1,h2⟩
 refine aa (fun hlt=> ?_) (fun hge=> ?_)
 ·have hlt:x<s.n:=by simpa using hlt
  obtain⟨ad,hx,ha,hc,_⟩:=h.str h0 hlt
  refine⟨h0,hlt,ad,ha,_,hc,(hp _ (List.getElem_mem hx)).mono ?_⟩
  rintro r V1 ⟨rfl,rfl⟩
  refine⟨_,rfl,aa (fun hb=>⟨?_,rfl⟩) (fun hb=>⟨au (by omega) (by omega),⟨rfl,by omega,by omega,fun j hj hjx=> ?_⟩,by omega⟩)⟩
  ·rw[eu p l x.toNat hx (fun j hj=>h2 j (by omega) (by omega)) hb]
   congr 1;omega
  ·by_cases e:(j:Int)<x
   ·exact h2 j hj e
   ·have:j=x.toNat:=by omega
    subst this;exact hb
 ·have hge:¬x<s.n:=by simpa using hge
  refine⟨?_,rfl⟩
  rw[fk p l fun y hy=> ?_]
  obtain⟨j,hj,rfl⟩:=List.getElem_of_mem hy
  exact h2 j hj (by omega)
theorem oa {p:ByteArray→Bool} {s:Sl} {l:List ByteArray} {V:View} {g:FuncId} {xs ys:List Value} (h:SlR V s l)
  (hp:∀b∈l,af Tryz.prog g ⟨xs++ [.string b]++ys⟩ V fun r V' =>r= .bool (p b)∧V' =V):
  af Tryz.prog 176 ⟨[.slice s.a s.n s.c,.func (.func g) ⟨xs⟩ ⟨ys⟩]⟩ V fun r V' =>r= .bool (l.any p)∧V' =V:=by
 refine KV ?_
 unfold CH
 refine(rU h hp).mono ?_
 rintro r V' ⟨rfl,rfl⟩
 refine⟨_,rfl, ?_,rfl⟩
 congr 1
 rcases gh p l with ⟨h1,h2⟩ | ⟨h1,h2,h3⟩
 ·rw[h1,h2];rfl
 ·rw[h3];simpa using h1
theorem Ae {s t:Sl} {l m:List ByteArray} {V:View} (h:SlR V s l) (k:SlR V t m):af Tryz.prog 200 ⟨[.slice s.a s.n s.c,.slice t.a t.n t.c]⟩ V fun r V' =>r= .bool (decide (l=m))∧V' =V:=by
 refine Lc ?_
 unfold CY
 have hn:=h.n;have hlim:=h.lim;have kn:=k.n
 refine aa (fun hne=>⟨?_,rfl⟩) (fun heq=> ?_)
 ·have hne:¬(s.n:Int)=t.n:=by simpa using hne
  rw[decide_eq_false]
  intro e;subst e;omega
 have heq:(s.n:Int)=t.n:=by simpa using heq
 refine bh (k:= .int .i64) (fun(x:Int) V' =>V' =V∧0≤x∧x≤s.n∧l.take x.toNat=m.take x.toNat) (fun(x:Int) _=>s.n-x.toNat) ⟨rfl,by omega,by omega,rfl⟩ ?_
 rintro(x:Int) V' ⟨rfl,h0,h1,h2⟩
 refine aa (fun hlt=> ?_) (fun hge=> ?_)
 ·have hlt:x<s.n:=by simpa using hlt
  obtain⟨ad,hx,ha,hc,_⟩:=h.str h0 hlt
  obtain⟨ad',hx',ha',hc',_⟩:=k.str h0 (by omega)
  refine⟨trivial,V',View.Le.refl _,h0,hlt,ad,ha,_,hc,h0,by omega,ad',ha',_,hc',aa (fun hb=>⟨?_,rfl⟩) (fun hb=>⟨au (by omega) (by omega),⟨rfl,by omega,by omega, ?_⟩,by omega⟩)⟩
  ·have hb:¬l[x.toNat]=m[x.toNat]:=by simpa using hb
   rw[decide_eq_false]
   intro e;subst e;exact hb rfl
  ·have hb:l[x.toNat]=m[x.toNat]:=by simpa using hb
   rw[show(x+1).toNat=x.toNat+1 by omega,List.take_add_one,List.take_add_one,h2,List.getElem?_eq_getElem hx,List.getElem?_eq_getElem hx',hb]
 ·have hge:¬x<s.n:=by simpa using hge
  rw[List.take_of_length_le (by omega),List.take_of_length_le (by omega)]at h2
  exact⟨by rw[h2];simp,rfl⟩
def xZ (V:View) (o:Option (List ByteArray)) (r:Value):Prop:=
 ∃(x:Sl) (e:Int),r= .tuple ⟨[.slice x.a x.n x.c,.int .i64 e]⟩∧match o with
  | none=>e=7∧x=⟨none,0,0⟩
  | some l=>e=0∧SlR V x l
theorem jT {s:ByteArray} {V:View} (_hs:s.size≤9223372036854775807) (hg:Glo V):af Tryz.prog 151 ⟨[.string s]⟩ V fun r V' =>xZ V' (bF s) r∧V.Le V' :=by
 refine Ky ?_
 unfold Ck
 refine(uy (s:=s)).mono ?_
 rintro r V' ⟨rfl,rfl⟩
 refine⟨_,_,rfl, ?_⟩
 have hno:(∀e:bF s=none,xZ V' (bF s) (.tuple ⟨[.slice none 0 0,.int .i64 7]⟩)∧V'.Le V'):=fun e=>⟨⟨⟨none,0,0⟩,7,rfl,by rw[e];exact⟨rfl,rfl⟩⟩,View.Le.refl _⟩
 refine aa (fun h=>hno ?_) (fun h=> ?_)
 ·unfold bF
  split
  ·rfl
  ·rename_i c r hb
   rw[if_neg]
   rintro⟨rfl,hle⟩
   rw[hb]at h
   simp [Lib.hasPrefix]at h
   omega
 ·cases hb:bl s with
  | nil=>rw[hb]at h;simp [Lib.hasPrefix]at h
  | cons c t=>
    rw[hb]at h
    have hc:c=47∧s.size≤60:=by
     simp [Lib.hasPrefix,List.isPrefixOf]at h
     exact⟨h.1.symm,by omega⟩
    obtain⟨rfl,h60⟩:=hc
    have htr:Lib.trimPrefix (47::t) [47]=t:=by simp [Lib.trimPrefix,Lib.hasPrefix,List.isPrefixOf]
    rw[htr]
    have hlen:(ba t).size≤60:=by rw[←lX,hb]at h60;rw[eX];simp at h60;omega
    refine aa (fun h=> ?_) (fun h=> ?_)
    ·have ht:t= []:=by
      have:ba t=ByteArray.mk #[]:=by simpa using h
      have:=congrArg bl this
      simpa using this
     refine⟨⟨⟨none,0,0⟩,0,rfl, ?_⟩,View.Le.refl _⟩
     unfold bF
     rw[hb]
     simp only
     rw[if_pos ⟨trivial,h60⟩,if_pos ht]
     exact⟨trivial,SlR.nil _ _ _⟩
    ·have ht:t≠ []:=fun e=>by
      subst e
      simp [ba]at h
     refine(vX (by omega) hg).mono ?_
     rintro r V1 ⟨x,rfl,hle,hx⟩
     refine⟨_,rfl,(oa (p:=fun b=> !cG b) hx fun b hb=> ?_).mono ?_⟩
     ·have hbs:b.size≤9223372036854775807:=by
       obtain⟨j,hj,rfl⟩:=List.getElem_of_mem hb
       obtain⟨_,_,_,_,_,h⟩:=hx.get j hj
       omega
      exact Ad hbs
     rintro r V2 ⟨rfl,rfl⟩
     have hsp:bF s=if((aP t).map ba).all cG then some ((aP t).map ba)else none:=by
      unfold bF
      rw[hb]
      simp only
      rw[if_pos ⟨trivial,h60⟩,if_neg ht]
     have hall:(((aP (bl (ba t))).map ba).any fun b=> !cG b)= !((aP t).map ba).all cG:=by
      rw[List.not_all_eq_any_not];rfl
     refine⟨_,rfl,aa (fun h=> ?_) (fun h=> ?_)⟩
     ·rw[hall]at h
      refine⟨⟨⟨none,0,0⟩,7,rfl, ?_⟩,hle⟩
      rw[hsp,if_neg (by simpa using h)]
      exact⟨rfl,rfl⟩
     ·rw[hall]at h
      refine⟨⟨x,0,rfl, ?_⟩,hle⟩
      rw[hsp,if_pos (by simpa using h)]
      exact⟨rfl,hx⟩
theorem vY {x:Sl} {l:List ByteArray} {V:View} (h:SlR V x l) (hl:(Lib.join (l.map bl) [47]).length≤140737488355327) (hg:Glo V):af Tryz.prog 194 ⟨[.slice x.a x.n x.c]⟩ V fun r V' =>r= .string (iw l)∧V.Le V' :=by
 refine Lb ?_
 unfold CX
 refine(xY h hl).mono ?_
 rintro r V' ⟨rfl,rfl⟩
 refine⟨_,rfl,by rw[eX];omega, ?_⟩
 have e:ByteArray.mk #[47]++ba (Lib.join (l.map bl) [47])=ba (47::Lib.join (l.map bl) [47]):=zZ [47] _
 rw[e]
 refine(jT (by rw[eX];simp;omega) hg).mono ?_
 rintro r V1 ⟨⟨y,n,rfl,hr⟩,hle⟩
 refine⟨_,_,rfl,ai (fun s V2=>s.1= !decide (bF (ba (47::Lib.join (l.map bl) [47]))=some l)∧V'.Le V2) ?_ ?_⟩
 ·unfold cur cur
  cases ho:bF (ba (47::Lib.join (l.map bl) [47]))with
  | none=>
    rw[ho]at hr
    obtain⟨rfl,rfl⟩:=hr
    simp [br,hle]
  | some m=>
    rw[ho]at hr
    obtain⟨rfl,hy⟩:=hr
    simp only [decide_true,Bool.not_true,vE]
    refine(Ae hy (h.mono hle)).mono ?_
    rintro r V2 ⟨rfl,rfl⟩
    exact⟨_,rfl,by simp,hle⟩
 ·rintro⟨b,⟨⟩⟩ V2 ⟨hb,hle⟩
  simp only at hb
  subst hb
  unfold iw unc unc
  by_cases hs:bF (ba (47::Lib.join (l.map bl) [47]))=some l
  ·simp [hs,hle]
  ·simp [hs,hle];rfl
theorem vZ {s:ByteArray} {V:View} (hs:s.size≤9223372036854775807) (hg:Glo V):af Tryz.prog 187 ⟨[.string s]⟩ V fun r V' =>r= .tuple ⟨[.string (dX s).1,.string (dX s).2.1,.int .i64 (dX s).2.2]⟩∧V.Le V' :=by
 refine K6 ?_
 unfold CS
 refine(jT hs hg).mono ?_
 rintro r V1 ⟨⟨y,n,rfl,hr⟩,hle⟩
 refine⟨_,_,rfl, ?_⟩
 unfold dX
 cases ho:bF s with
 | none=>
   rw[ho]at hr
   obtain⟨rfl,rfl⟩:=hr
   simp [hle];rfl
 | some l=>
   rw[ho]at hr
   obtain⟨rfl,hy⟩:=hr
   have hn:=hy.n;have hlim:=hy.lim;have hc:=hy.c
   simp only [decide_true,Bool.not_true,vE]
   refine aa (fun h=> ?_) (fun h=> ?_)
   ·have h:(y.n:Int)=0:=by simpa using h
    have:l= []:=List.eq_nil_of_length_eq_zero (by omega)
    simp [this,hle];rfl
   ·have h:¬(y.n:Int)=0:=by simpa using h
    have hne:l≠ []:=fun e=>by subst e;simp at hn;omega
    obtain⟨ad,hx,ha,hcell,_⟩:=hy.str (x:=(y.n:Int)-1) (by omega) (by omega)
    refine⟨au (by omega) (by omega),trivial,V1,View.Le.refl _,by omega,by omega,by omega,by omega,by omega,ad,ha,_,hcell, ?_⟩
    have hsp:=dF ho
    have htl:=hy.take (j:=l.length-1) (by omega)
    have e1:((y.n:Int)-1).toNat-0=l.length-1:=by omega
    have e2:l.take (l.length-1)=l.dropLast:=(List.dropLast_eq_take).symm
    have e3:(if y.c=0 then y.a else Option.map (fun(x:Addr)=>x.add 0) y.a)=y.a:=by rw[cu];simp
    rw[e1,e3,Nat.sub_zero]
    rw[e2]at htl
    have hjl:(Lib.join (l.dropLast.map bl) [47]).length≤140737488355327:=by
     have h60:(Lib.join (l.map bl) [47]).length≤60:=by
      have:=hsp.2.2
      have:=congrArg List.length this
      rw[lX]at this
      simp at this
      omega
     have hl2:l=l.dropLast++ [l.getLast hne]:=(List.dropLast_concat_getLast hne).symm
     by_cases hd:l.dropLast= []
     ·rw[hd];simp [Lib.join_nil]
     ·rw[hl2,qo _ _ hd]at h60
      simp only [List.length_append,List.length_cons]at h60
      omega
    refine(vY (x:=⟨y.a,l.length-1,y.c⟩) htl hjl (hg.mono hle)).mono ?_
    rintro r V2 ⟨rfl,hle2⟩
    refine⟨_,rfl,hle2, ?_,hle.trans hle2⟩
    rw[dif_neg hne]
    have e4:l[((y.n:Int)-1).toNat]=l.getLast hne:=by
     rw[List.getLast_eq_getElem]
     congr 1<;>omega
    simp only [e4]
def RdC (V:View) (p:Nat) (s:Sl) (e:Int):Prop:=∃ty,V.see p=some (.cells ⟨[.slice s.a s.n s.c,.int .i64 e]⟩ ty (0,0))
def Rd (V:View) (p:Nat) (st:Option (List UInt8)):Prop:=
 ∃(s:Sl) (e:Int) (bs:List UInt8),RdC V p s e∧SlR (V.bt p) s bs∧bs.length≤140737488350000∧(st=some bs∧e=0∨st=none∧e=5)
theorem RdC.c1 {V:View} {p:Nat} {s:Sl} {e:Int} (h:RdC V p s e):V.cell? ((⟨p,0,none⟩:Addr).add 1)=some (.int .i64 e):=by
 obtain⟨ty,h⟩:=h
 exact bX h rfl
theorem Rd.mono {V V' :View} {p:Nat} {st:Option (List UInt8)} (h:Rd V p st) (hV:V.Le V'):Rd V' p st:=by
 obtain⟨s,e,bs,⟨ty,h1⟩,h2,h3,h4⟩:=h
 have hh:(V.bt p).Le (V'.bt p):=by
  refine⟨hV.size,fun i o ho=> ?_,hV.out⟩
  unfold View.bt at*
  simp only at*
  split at ho
  ·cases ho
  ·rename_i hne;rw[if_neg hne];exact hV.see i o ho
 exact⟨s,e,bs,⟨ty,hV.see _ _ h1⟩,h2.mono hh,h3,h4⟩
structure v7 (cs:List Value) (l:List Int):Prop where
 rep:∀ {W:View},aR W cs l
theorem aR.int {W:View} :∀ {cs:List Value} {l:List Int},aR W cs l→v7 cs l
 | _,[],h=>⟨h⟩
 | _,_::_,⟨vs,us,e,h1,h2⟩=>⟨⟨vs,us,e,h1,(aR.int h2).rep⟩⟩
structure Nn (cs:List Value) (l:List Ent):Prop where
 rep:∀ {W:View},aR W cs l
theorem aR.ent {W:View} :∀ {cs:List Value} {l:List Ent},aR W cs l→Nn cs l
 | _,[],h=>⟨h⟩
 | _,_::_,⟨vs,us,e,h1,h2⟩=>⟨⟨vs,us,e,h1,(aR.ent h2).rep⟩⟩
theorem Af {s t:Sl} {l m:List Int} {V:View} (h:SlR V s l) (k:SlR V t m):af Tryz.prog 120 ⟨[.slice s.a s.n s.c,.slice t.a t.n t.c]⟩ V fun r V' =>r= .bool (decide (l=m))∧V' =V:=by
 refine J5 ?_
 unfold BP
 have hn:=h.n;have hlim:=h.lim;have kn:=k.n
 refine aa (fun hne=>⟨?_,rfl⟩) (fun heq=> ?_)
 ·have hne:¬(s.n:Int)=t.n:=by simpa using hne
  rw[decide_eq_false]
  intro e;subst e;omega
 have heq:(s.n:Int)=t.n:=by simpa using heq
 refine bh (k:= .int .i64) (fun(x:Int) V' =>V' =V∧0≤x∧x≤s.n∧l.take x.toNat=m.take x.toNat) (fun(x:Int) _=>s.n-x.toNat) ⟨rfl,by omega,by omega,rfl⟩ ?_
 rintro(x:Int) V' ⟨rfl,h0,h1,h2⟩
 refine aa (fun hlt=> ?_) (fun hge=> ?_)
 ·have hlt:x<s.n:=by simpa using hlt
  obtain⟨ad,hx,ha,hc,_⟩:=h.int h0 hlt
  obtain⟨ad',hx',ha',hc',_⟩:=k.int h0 (by omega)
  refine⟨trivial,V',View.Le.refl _,h0,hlt,ad,ha,_,hc,h0,by omega,ad',ha',_,hc',aa (fun hb=>⟨?_,rfl⟩) (fun hb=>⟨au (by omega) (by omega),⟨rfl,by omega,by omega, ?_⟩,by omega⟩)⟩
  ·have hb:¬l[x.toNat]=m[x.toNat]:=by simpa using hb
   rw[decide_eq_false]
   intro e;subst e;exact hb rfl
  ·have hb:l[x.toNat]=m[x.toNat]:=by simpa using hb
   rw[show(x+1).toNat=x.toNat+1 by omega,List.take_add_one,List.take_add_one,h2,List.getElem?_eq_getElem hx,List.getElem?_eq_getElem hx',hb]
 ·have hge:¬x<s.n:=by simpa using hge
  rw[List.take_of_length_le (by omega),List.take_of_length_le (by omega)]at h2
  exact⟨by rw[h2];simp,rfl⟩
theorem Dd {x y:Ent} :(decide (x.name=y.name)&&(decide (x.node=y.node)&&true))=decide (x=y):=by
 cases x;cases y
 rw[Bool.eq_iff_iff];simp
theorem Ag {s t:Sl} {l m:List Ent} {V:View} (h:SlR V s l) (k:SlR V t m):af Tryz.prog 121 ⟨[.slice s.a s.n s.c,.slice t.a t.n t.c]⟩ V fun r V' =>r= .bool (decide (l=m))∧V' =V:=by
 refine J6 ?_
 unfold BQ
 have hn:=h.n;have hlim:=h.lim;have kn:=k.n
 refine aa (fun hne=>⟨?_,rfl⟩) (fun heq=> ?_)
 ·have hne:¬(s.n:Int)=t.n:=by simpa using hne
  rw[decide_eq_false]
  intro e;subst e;omega
 have heq:(s.n:Int)=t.n:=by simpa using heq
 refine bh (k:= .int .i64) (fun(x:Int) V' =>V' =V∧0≤x∧x≤s.n∧l.take x.toNat=m.take x.toNat) (fun(x:Int) _=>s.n-x.toNat) ⟨rfl,by omega,by omega,rfl⟩ ?_
 rintro(x:Int) V' ⟨rfl,h0,h1,h2⟩
 refine aa (fun hlt=> ?_) (fun hge=> ?_)
 ·have hlt:x<s.n:=by simpa using hlt
  obtain⟨ad,hx,ha,hc,_⟩:=h.ent h0 hlt
  obtain⟨ad',hx',ha',hc',_⟩:=k.ent h0 (by omega)
  refine⟨trivial,V',View.Le.refl _,h0,hlt,ad,ha,_,_,hc,h0,by omega,ad',ha',_,_,hc',trivial, ?_⟩
  rw[Dd]
  refine aa (fun hb=>⟨?_,rfl⟩) (fun hb=>⟨au (by omega) (by omega),⟨rfl,by omega,by omega, ?_⟩,by omega⟩)
  ·have hb:¬l[x.toNat]=m[x.toNat]:=by simpa using hb
   rw[decide_eq_false]
   intro e;subst e;exact hb rfl
  ·have hb:l[x.toNat]=m[x.toNat]:=by simpa using hb
   rw[show(x+1).toNat=x.toNat+1 by omega,List.take_add_one,List.take_add_one,h2,List.getElem?_eq_getElem hx,List.getElem?_eq_getElem hx',hb]
 ·have hge:¬x<s.n:=by simpa using hge
  rw[List.take_of_length_le (by omega),List.take_of_length_le (by omega)]at h2
  exact⟨by rw[h2];simp,rfl⟩
theorem De (a b:Nod):decide (a=b)=(decide (a.kind=b.kind)&&decide (a.links=b.links)&&decide (a.size=b.size)&&(decide (a.an=b.an)&&decide (a.az=b.az))):=by
 cases a;cases b
 rw[Bool.eq_iff_iff];simp [and_assoc]
theorem Df {a b:Nod} {s e s' e' :Sl} {V:View} (h:dJ V s e a) (k:dJ V s' e' b):af Tryz.prog 73 ⟨[eN a s e,eN b s' e']⟩ V fun r V' =>r= .bool (decide (a=b))∧V' =V:=by
 refine Mz ?_
 unfold Hj
 rw[De]
 refine fun _ _=>ai (fun q V' =>q.1=(decide (a.kind=b.kind)&&decide (a.links=b.links)&&decide (a.size=b.size)&&(decide (a.an=b.an)&&decide (a.az=b.az)))∧V' =V) (aa (fun hb=>(Af h.an k.an).mono ?_) (fun hb=>⟨?_,rfl⟩)) ?_
 ·have hb:(decide (a.kind=b.kind)&&decide (a.links=b.links)&&decide (a.size=b.size))=true:=by
   cases h1:decide (a.kind=b.kind)<;>cases h2:decide (a.links=b.links)<;>cases h3:decide (a.size=b.size)<;>simp_all
  rw[hb]
  rintro r V1 ⟨rfl,rfl⟩
  refine⟨_,rfl,aa (fun h1=>(Ag h.az k.az).mono ?_) (fun h1=>⟨by rw[h1];rfl,rfl⟩)⟩
  rintro r V2 ⟨rfl,rfl⟩
  exact⟨_,rfl,by rw[h1];rfl,rfl⟩
 ·have hb:(decide (a.kind=b.kind)&&decide (a.links=b.links)&&decide (a.size=b.size))=false:=by
   cases h1:decide (a.kind=b.kind)<;>cases h2:decide (a.links=b.links)<;>cases h3:decide (a.size=b.size)<;>simp_all
  rw[hb];rfl
 ·rintro⟨q,⟨⟩⟩ V1 ⟨h1,hV⟩
  simp only at h1 hV
  subst h1 hV
  exact⟨rfl,rfl⟩
theorem rV {s t:Sl} {l m:List Nod} {V:View} {g:FuncId} {xs ys:List Value} (h:SlR V s l) (k:SlR V t m)
  (hp:∀a b s e s' e',dJ V s e a→dJ V s' e' b→af Tryz.prog g ⟨xs++ [eN a s e,eN b s' e']++ys⟩ V fun r V' =>r= .bool (decide (a=b))∧V' =V):
  af Tryz.prog 72 ⟨[.slice s.a s.n s.c,.slice t.a t.n t.c,.func (.func g) ⟨xs⟩ ⟨ys⟩]⟩ V fun r V' =>r= .bool (decide (l=m))∧V' =V:=by
 refine My ?_
 unfold Hi
 have hn:=h.n;have hlim:=h.lim;have kn:=k.n
 refine aa (fun hne=>⟨?_,rfl⟩) (fun heq=> ?_)
 ·have hne:¬(s.n:Int)=t.n:=by simpa using hne
  rw[decide_eq_false]
  intro e;subst e;omega
 have heq:(s.n:Int)=t.n:=by simpa using heq
 refine bh (k:= .int .i64) (fun(x:Int) V' =>V' =V∧0≤x∧x≤s.n∧l.take x.toNat=m.take x.toNat) (fun(x:Int) _=>s.n-x.toNat) ⟨rfl,by omega,by omega,rfl⟩ ?_
 rintro(x:Int) V' ⟨rfl,h0,h1,h2⟩
 refine aa (fun hlt=> ?_) (fun hge=> ?_)
 ·have hlt:x<s.n:=by simpa using hlt
  obtain⟨ad,sq,en,hx,ha,hc,hN⟩:=h.nod h0 hlt
  obtain⟨ad',sq',en',hx',ha',hc',hN'⟩:=k.nod h0 (by omega)
  refine⟨h0,hlt,ad,ha,_,_,_,sq,en,hc,fun _=>⟨h0,by omega,ad',ha',_,_,_,sq',en',hc',fun _=>(hp _ _ _ _ _ _ hN hN').mono ?_⟩⟩
  rintro r V1 ⟨rfl,rfl⟩
  refine⟨_,rfl,aa (fun hb=>⟨?_,rfl⟩) (fun hb=>⟨au (by omega) (by omega),⟨rfl,by omega,by omega, ?_⟩,by omega⟩)⟩
  ·have hb:¬l[x.toNat]=m[x.toNat]:=of_decide_eq_false (aM hb)
   rw[decide_eq_false]
   intro e;subst e;exact hb rfl
  ·have hb:l[x.toNat]=m[x.toNat]:=of_decide_eq_true (aD hb)
   rw[show(x+1).toNat=x.toNat+1 by omega,List.take_add_one,List.take_add_one,h2,List.getElem?_eq_getElem hx,List.getElem?_eq_getElem hx',hb]
 ·have hge:¬x<s.n:=by simpa using hge
  rw[List.take_of_length_le (by omega),List.take_of_length_le (by omega)]at h2
  exact⟨by rw[h2];simp,rfl⟩
theorem Dg {s t:Sl} {l m:Tre} {V:View} (h:SlR V s l) (k:SlR V t m):af Tryz.prog 39 ⟨[aZ s,aZ t]⟩ V fun r V' =>r= .bool (decide (l=m))∧V' =V:=by
 refine L5 ?_
 unfold GJ
 refine fun _ _=>(rV (xs:= []) (ys:= []) h k fun a b s e s' e' hN hN' => ?_).mono ?_
 ·exact Df hN hN'
 ·rintro r V' ⟨rfl,rfl⟩
  exact⟨_,rfl,rfl,rfl⟩
def uz:Nod:=⟨2,1,0,[],[]⟩
def firstT:Tre:=uz::List.replicate 11 Nod.zero
theorem x8:∀i,i<12→∀met:Bool,(i=0→met=true)→gB (firstT.getD i default) (i:Nat) ((cnt 12 (dh firstT)).getD i 0) met=true:=by decide
theorem mj:aY firstT=true:=by
 unfold aY
 have h1:(decide (firstT.length=12)&&firstT.all bA&&decide ((firstT.getD 0 default).kind=2))=true:=by decide
 have h2:b6 (bC firstT)=true:=by decide
 rw[h1,h2,Bool.true_and,Bool.and_true,List.all_eq_true]
 intro i hi
 exact x8 i (List.mem_range.1 hi) _ fun h=>by subst h;exact fH.2 .refl
theorem Ah {V:View} :af Tryz.prog 61 ⟨[.int .i64 2]⟩ V fun r V' =>r=eN uz ⟨none,0,0⟩ ⟨none,0,0⟩∧V' =V:=by
 refine G3 ?_
 unfold Br
 exact fun _=>aa (fun h=>absurd h (by decide)) (fun _=>aa (fun _=>⟨rfl,rfl⟩) (fun h=>absurd h (by decide)))
def gP (n:Nod):List Value:= [.int .i64 n.kind,.int .i64 n.links,.int .i64 n.size,.slice none 0 0,.slice none 0 0]
theorem v8 {W:View} {n:Nod} (h1:inI .i64 n.kind) (h2:inI .i64 n.links) (h3:inI .i64 n.size) (h4:n.an= []) (h5:n.az= []):Rep.rep W (gP n) n:=
 ⟨⟨none,0,0⟩,⟨none,0,0⟩,rfl,h1,h2,h3,by rw[h4];exact SlR.nil _ _ _,by rw[h5];exact SlR.nil _ _ _⟩
theorem oc {W:View} :∀k,aR W (List.replicate k (gP Nod.zero)).flatten (List.replicate k Nod.zero)
 | 0=>rfl
 | k+1=>⟨gP Nod.zero,(List.replicate k (gP Nod.zero)).flatten,by rw[List.replicate_succ,List.flatten_cons],v8 zero64 zero64 zero64 rfl rfl,oc k⟩
theorem Dh {V:View} :af Tryz.prog 32 ⟨[]⟩ V fun r V' =>∃x:Sl,r=aZ x∧SlR V' x firstT∧V.Le V' :=by
 refine LZ (_u:=()) ?_
 unfold GB
 refine fun _=>⟨by decide,by decide,by decide,by decide,fun r hr=> ?_⟩
 have hfr:=View.ax hr
 have hp:=View.bB (o:= .cells ⟨(List.replicate 12 (gP Nod.zero)).flatten⟩ 63 (0,0)) hfr
 refine fun _=>⟨trivial,V,hp,Ah.mono ?_⟩
 rintro r1 V1 ⟨rfl,rfl⟩
 refine⟨_,_,_,⟨none,0,0⟩,⟨none,0,0⟩,rfl,hp,by decide,by decide,_,rfl, ?_,⟨some ⟨r,0,none⟩,12,12⟩,rfl, ?_, ?_⟩
 ·exact bJ (View.ah _ _ _) (by decide)
 ·have e:(⟨r,0,none⟩:Addr).add 0=⟨r,0,none⟩:=rfl
  rw[e,bn (View.ah _ _ _)]
  have:=bK (α:=Nod) (l:=firstT) (W:=(V.put r (.cells ⟨(List.replicate 12 (gP Nod.zero)).flatten⟩ 63 (0,0))).put r (.cells ⟨gP uz++(List.replicate 11 (gP Nod.zero)).flatten⟩ 63 (0,0))) (View.ah _ _ _) ⟨gP uz,_,rfl,v8 zi oO zero64 rfl rfl,oc 11⟩ (View.Le.refl _) (by decide)
  exact this
 ·have e:(⟨r,0,none⟩:Addr).add 0=⟨r,0,none⟩:=rfl
  rw[e,bn (View.ah _ _ _)]
  exact(aT hfr (View.Le.refl _)).trans (ku r _)
theorem qJ {V:View} {x:Sl} {l:List UInt8} (h:SlR V x l):rowAt V x.a x.n (dw (ba l)):=by
 have:=h.FE
 rw[Nat.mul_one]at this
 exact this
def atI (l:List Ent) (s:ByteArray):Int:=match l.find? fun x=>decide (x.name=s)with
 | some x=>x.node
 | none=> -1
theorem jw {α:Type} (p:α→Bool):∀l:List α,(eR p l= -1∧l.find? p=none)∨∃i,∃h:i<l.length,eR p l=(i:Int)∧l.find? p=some l[i]
 | []=> .inl ⟨rfl,rfl⟩
 | x::l=>by
   unfold eR
   by_cases hx:p x=true
   ·right;exact⟨0,by simp,by rw[if_pos hx];rfl,by simp [hx]⟩
   ·rw[if_neg hx]
    rcases jw p l with ⟨h1,h2⟩ | ⟨i,h,h1,h2⟩
    ·left;rw[h1];exact⟨rfl,by simp [hx,h2]⟩
    ·right
     refine⟨i+1,by simpa using h, ?_,by simp [hx,h2]⟩
     rw[h1];simp
def goF (t:Tre):Nat→List ByteArray→Except Int Nat
 | i,[]=> .ok i
 | i,s::l=>if ak t i=2 then(if atI (ag t i) s<0 then .error 8 else goF t (atI (ag t i) s).toNat l)else .error 11
theorem ez (t:Tre) (i:Nat) (s:ByteArray) (l:List ByteArray):goF t i (s::l)=if ak t i=2 then(if atI (ag t i) s<0 then .error 8 else goF t (atI (ag t i) s).toNat l)else .error 11:=rfl
noncomputable def b8 (t:Tre) (s:ByteArray):Except Int Nat:=if aY t then match bF s with
 | none=> .error 7
 | some l=>goF t 0 l
 else .error 1
noncomputable def aH (t:Tre) (s:ByteArray):Except Int (Nat×ByteArray):=if aY t then
  (if(dX s).2.2=0 then match b8 t (dX s).1 with
   | .error e=> .error e
   | .ok i=>if ak t i=2 then .ok (i,(dX s).2.1)else .error 11
  else .error (dX s).2.2)
 else .error 1
noncomputable def eF (t:Tre) (a b:Int):Bool:=aY t&&decide (0≤a)&&decide (a<12)&&decide (0≤b)&&decide (b<12)&&decide (ak t a.toNat=2)&&iV t a.toNat b.toNat
noncomputable def bE (t:Tre):Int:=if aY t then eR (fun n=>decide (n.kind=0)) t else-1
theorem bq {t:Tre} (h:aY t=true):t.length=12∧(∀n∈t,bA n=true)∧ak t 0=2∧(∀i,i<12→gB (t.getD i default) i ((cnt 12 (dh t)).getD i 0) (iV t 0 i)=true)∧b6 (bC t)=true:=by
 unfold aY at h
 simp only [Bool.and_eq_true,decide_eq_true_eq,List.all_eq_true,List.mem_range]at h
 exact⟨h.1.1.1.1,h.1.1.1.2,h.1.1.2,h.1.2,h.2⟩
theorem fq {t:Tre} (h:aY t=true):∀n∈t,∀e∈n.az,1≤e.node∧e.node<12:=fun n hn e he=>by
 have:=fo (bV ((bq h).2.1 n hn)) he
 exact⟨this.1,this.2.1⟩
theorem jx {t:Tre} {i:Nat} (h:i<t.length):t.getD i default∈t:=by rw[aB h];exact List.getElem_mem _
theorem lg {l:List Ent} {s:ByteArray} (h:∀e∈l,1≤e.node∧e.node<12):atI l s= -1∨(1≤atI l s∧atI l s<12):=by
 unfold atI
 split
 ·rename_i x hx;right;exact h x (List.mem_of_find?_eq_some hx)
 ·left;rfl
theorem lp {t:Tre} (h12:t.length=12) (hn:∀n∈t,∀e∈n.az,1≤e.node∧e.node<12):∀ {l:List ByteArray} {i q:Nat},i<12→goF t i l= .ok q→q<12
 | [],i,q,hi,h=>by cases h;exact hi
 | s::l,i,q,hi,h=>by
   unfold goF at h
   split at h
   ·split at h
    ·cases h
    ·rename_i h0
     have:=lg (s:=s) (hn _ (jx (t:=t) (i:=i) (by omega)))
     refine lp h12 hn ?_ h
     unfold ag at h0 ⊢
     omega
   ·cases h
theorem gE {t:Tre} {s:ByteArray} {q:Nat} (h:b8 t s= .ok q):q<12:=by
 unfold b8 at h
 split at h
 ·rename_i hM
  split at h
  ·cases h
  ·exact lp (bq hM).1 (fq hM) (by omega) h
 ·cases h
def we:Except Int Nat→Value
 | .ok i=> .tuple ⟨[.int .i64 (i:Int),.int .i64 0]⟩
 | .error e=> .tuple ⟨[.int .i64 0,.int .i64 e]⟩
def FN:Except Int (Nat×ByteArray)→Value
 | .ok (i,s)=> .tuple ⟨[.int .i64 (i:Int),.string s,.int .i64 0]⟩
 | .error e=> .tuple ⟨[.int .i64 0,.string (ba []),.int .i64 e]⟩
theorem gj {t:Tre} {s:ByteArray} {e:Int} (h:b8 t s= .error e):e≠0:=by
 have go:∀ {l:List ByteArray} {i:Nat},goF t i l= .error e→e≠0:=by
  intro l
  induction l with
  | nil=>intro i h;cases h
  | cons s l ih=>
    intro i h
    unfold goF at h
    split at h
    ·split at h
     ·cases h;decide
     ·exact ih h
    ·cases h;decide
 unfold b8 at h
 split at h
 ·split at h
  ·cases h;decide
  ·exact go h
 ·cases h;decide
theorem x9 {s:ByteArray} (_hs:s.size≤9223372036854775807):(dX s).1.size≤9223372036854775807:=by
 unfold dX
 split
 ·simp [eX]
 ·rename_i l hl
  split
  ·simp [eX]
  ·unfold iw
   split
   ·rename_i h2
    have:=(dF h2).1
    dsimp only
    omega
   ·simp [eX]
theorem Ai {x:Ent} {s:ByteArray} {z:Addr} {V:View} (h:V.cell? z=some (.string s)):af Tryz.prog 192 ⟨[Ld x,.pointer (some z)]⟩ V fun r V' =>r= .bool (decide (x.name=s))∧V' =V:=by
 refine K9 ?_
 unfold CV
 exact fun _=>⟨s,h,rfl,rfl⟩
theorem rW {p:Ent→Bool} {s:Sl} {l:List Ent} {V:View} {g:FuncId} {xs ys:List Value} (h:SlR V s l)
  (hp:∀n∈l,af Tryz.prog g ⟨xs++ [Ld n]++ys⟩ V fun r V' =>r= .bool (p n)∧V' =V):
  af Tryz.prog 191 ⟨[.slice s.a s.n s.c,.func (.func g) ⟨xs⟩ ⟨ys⟩]⟩ V fun r V' =>r= .int .i64 (eR p l)∧V' =V:=by
 refine K8 ?_
 unfold CU
 have hn:=h.n;have hlim:=h.lim
 refine bh (k:= .int .i64) (fun(x:Int) V' =>V' =V∧0≤x∧x≤s.n∧∀j (hj:j<l.length),(j:Int)<x→p l[j]=false) (fun(x:Int) _=>s.n-x.toNat) ⟨rfl,by omega,by omega,fun j _ hj=>by omega⟩ ?_
 rintro(x:Int) V' ⟨rfl,h0,h1,h2⟩
 refine aa (fun hlt=> ?_) (fun hge=> ?_)
 ·have hlt:x<s.n:=by simpa using hlt
  obtain⟨ad,hx,ha,hc,_⟩:=h.ent h0 hlt
  refine⟨h0,hlt,ad,ha,_,_,hc,(hp _ (List.getElem_mem hx)).mono ?_⟩
  rintro r V1 ⟨rfl,rfl⟩
  refine⟨_,rfl,aa (fun hb=>⟨?_,rfl⟩) (fun hb=>⟨au (by omega) (by omega),⟨rfl,by omega,by omega,fun j hj hjx=> ?_⟩,by omega⟩)⟩
  ·rw[eu p l x.toNat hx (fun j hj=>h2 j (by omega) (by omega)) hb]
   congr 1;omega
  ·by_cases e:(j:Int)<x
   ·exact h2 j hj e
   ·have:j=x.toNat:=by omega
    subst this;exact hb
 ·have hge:¬x<s.n:=by simpa using hge
  refine⟨?_,rfl⟩
  rw[fk p l fun y hy=> ?_]
  obtain⟨j,hj,rfl⟩:=List.getElem_of_mem hy
  exact h2 j hj (by omega)
theorem qK {x:Sl} {l:List Ent} {s:ByteArray} {V:View} (h:SlR V x l):af Tryz.prog 185 ⟨[.slice x.a x.n x.c,.string s]⟩ V fun r V' =>r= .int .i64 (eR (fun e:Ent=>decide (e.name=s)) l)∧V.Le V' :=by
 refine K4 ?_
 unfold CQ
 intro b hb
 have hle:=View.bB (o:= .cells ⟨[.string s]⟩ 9 (0,0)) hb
 refine(rW (xs:= []) (ys:= [.pointer (some ⟨b,0,none⟩)]) (p:=fun e:Ent=>decide (e.name=s)) (h.mono hle) (fun n _=>Ai (x:=n) (bX (View.ah _ _ _) rfl))).mono ?_
 rintro r V1 ⟨rfl,rfl⟩
 exact⟨_,rfl,rfl,hle⟩
theorem oV {x:Sl} {l:List Ent} {s:ByteArray} {V:View} (h:SlR V x l):af Tryz.prog 171 ⟨[.slice x.a x.n x.c,.string s]⟩ V fun r V' =>r= .int .i64 (atI l s)∧V.Le V' :=by
 refine KS ?_
 unfold CE
 refine(qK h).mono ?_
 rintro r V1 ⟨rfl,hV1⟩
 refine⟨_,rfl, ?_⟩
 have hn:=h.n
 unfold atI
 rcases jw (fun e:Ent=>decide (e.name=s)) l with ⟨h1,h2⟩ | ⟨i,hi,h1,h2⟩
 ·rw[h1,h2]
  exact aa (fun _=>⟨rfl,hV1⟩) (fun hc=>absurd (of_decide_eq_false hc) (by omega))
 ·rw[h1,h2]
  refine aa (fun hc=> ?_) (fun _=> ?_)
  ·have:=of_decide_eq_true hc;omega
  ·obtain⟨ad,ha,hc,_⟩:=(h.mono hV1).lZ hi
   rw[aB hi]at hc
   exact⟨by omega,by omega,ad,ha,_,av hc 1 rfl,rfl,hV1⟩
theorem gF {x:Sl} {l:List Ent} {s:ByteArray} {V:View} (h:SlR V x l):af Tryz.prog 126 ⟨[.slice x.a x.n x.c,.string s]⟩ V fun r V' =>r= .int .i64 (atI l s)∧V' =V:=by
 refine Ka ?_
 unfold BV
 have hn:=h.n;have hlim:=h.lim
 refine bh (k:= .int .i64) (fun(x:Int) V' =>V' =V∧∃i:Nat,x=i∧i≤l.length∧atI l s=atI (l.drop i) s) (fun(x:Int) _=>l.length-x.toNat) ⟨rfl,0,rfl,by omega,rfl⟩ ?_
 rintro(y:Int) V' ⟨rfl,i,rfl,hi,h2⟩
 refine aa (fun hlt=> ?_) (fun hge=> ?_)
 ·have hlt:i<l.length:=by have:=of_decide_eq_true hlt;omega
  obtain⟨ad,ha,hc,_⟩:=h.lZ hlt
  have hd:l.drop i=l.getD i default::l.drop (i+1):=by rw[aB hlt];exact(List.getElem_cons_drop (h:=hlt)).symm
  have h3:atI l s=if(l.getD i default).name=s then(l.getD i default).node else atI (l.drop (i+1)) s:=by
   rw[h2,hd]
   unfold atI
   rw[List.find?_cons]
   by_cases e:(l.getD i default).name=s
   ·rw[decide_eq_true e,if_pos e]
   ·rw[decide_eq_false e,if_neg e]
  refine⟨by omega,by omega,ad,ha,_,_,hc,fun _=>aa (fun hb=> ?_) (fun hb=> ?_)⟩
  ·have hb:=of_decide_eq_true hb
   rw[h3,if_pos hb];exact⟨rfl,rfl⟩
  ·have hb:=of_decide_eq_false hb
   rw[if_neg hb]at h3
   exact⟨au (by omega) (by omega),⟨rfl,i+1,by omega,by omega,h3⟩,by omega⟩
 ·have hge:i=l.length:=by have:=of_decide_eq_false hge;omega
  subst hge
  rw[List.drop_length]at h2
  rw[h2];exact⟨rfl,rfl⟩
theorem SlR.Aj {V:View} {s:Sl} {l:List ByteArray} (h:SlR V s l) {i:Nat} (hi:i<l.length):
  ∃ad,s.a=some ad∧V.cell? (ad.add (((i:Int)).toNat*1))=some (.string l[i])∧l[i].size≤9223372036854775807:=by
 have hn:=h.n
 obtain⟨ad,hx,ha,hc,hs⟩:=h.str (x:=(i:Int)) (by omega) (by omega)
 exact⟨ad,ha,hc,hs⟩
theorem Di {s x:Sl} {t:Tre} {l:List ByteArray} {V:View} (h:SlR V s t) (k:SlR V x l) (h12:t.length=12) (hnode:∀n∈t,∀e∈n.az,1≤e.node∧e.node<12):af Tryz.prog 152 ⟨[aZ s,.slice x.a x.n x.c]⟩ V fun r V' =>r=we (goF t 0 l)∧V.Le V' :=by
 refine Kz ?_
 unfold Cl
 have hn:=h.n;have kn:=k.n;have klim:=k.lim
 refine fun _=>di (k:= .int .i64) (l:= .int .i64) (fun(y:Int) (j:Int) V' =>∃q i:Nat,y=q∧j=i∧q<12∧i≤l.length∧goF t 0 l=goF t q (l.drop i)∧V.Le V') (fun _ (j:Int) _=>l.length-j.toNat) ⟨0,0,rfl,rfl,by omega,by omega,rfl,View.Le.refl _⟩ ?_
 rintro(y:Int) (j:Int) V1 ⟨q,i,rfl,rfl,hq,hi,hG,hV1⟩
 refine aa (fun hlt=> ?_) (fun hge=> ?_)
 ·have hlt:i<l.length:=by have:=of_decide_eq_true hlt;omega
  obtain⟨ad,ha,hc,hsz⟩:=(k.mono hV1).Aj hlt
  obtain⟨ad2,sq,en,ha2,hc2,hN⟩:=(h.mono hV1).bO (i:=q) (by omega)
  have hd:l.drop i=l[i]::l.drop (i+1):=(List.getElem_cons_drop (h:=hlt)).symm
  rw[hd,ez]at hG
  refine⟨by omega,by omega,ad,ha,_,hc,by omega,by omega,ad2,ha2,_,av hc2 0 rfl,aa (fun hb=> ?_) (fun hb=>⟨by omega,by omega,ad2,ha2,en,av hc2 4 rfl,(oV hN.az).mono ?_⟩)⟩
  ·have hb:¬ak t q=2:=of_decide_eq_false (aM hb)
   rw[if_neg hb]at hG
   rw[hG];exact⟨rfl,hV1⟩
  ·have hb:ak t q=2:=of_decide_eq_true (aD hb)
   rw[if_pos hb]at hG
   rintro r V2 ⟨rfl,hV2⟩
   have hr:=lg (s:=l[i]) (hnode _ (jx (t:=t) (i:=q) (by omega)))
   refine⟨_,rfl,aa (fun h0=> ?_) (fun h0=> ?_)⟩
   ·have h0:=of_decide_eq_true h0
    rw[if_pos (show atI (ag t q) l[i]<0 from h0)]at hG
    rw[hG];exact⟨rfl,hV1.trans hV2⟩
   ·have h0:=of_decide_eq_false h0
    rw[if_neg (show ¬atI (ag t q) l[i]<0 from h0)]at hG
    exact⟨au (by omega) (by omega),⟨(atI (ag t q) l[i]).toNat,i+1,by unfold ag;omega,by omega,by unfold ag;omega,by omega,hG,hV1.trans hV2⟩,by omega⟩
 ·have hge:i=l.length:=by have:=of_decide_eq_false hge;omega
  subst hge
  rw[List.drop_length]at hG
  rw[hG];exact⟨rfl,hV1⟩
theorem mm {s:Sl} {t:Tre} {p:ByteArray} {V:View} (h:SlR V s t) (hp:p.size≤9223372036854775807) (hg:Glo V):af Tryz.prog 102 ⟨[aZ s,.string p]⟩ V fun r V' =>r=we (b8 t p)∧V.Le V' :=by
 refine JN ?_
 unfold Bw
 refine fun _=>(iI h).mono ?_
 rintro r V1 ⟨rfl,hV1⟩
 unfold b8
 refine⟨_,rfl,aa (fun hb=>⟨by rw[if_neg (by rw[aM hb];decide)];rfl,hV1⟩) (fun hb=> ?_)⟩
 have hM:=aD hb
 rw[if_pos hM]
 refine(jT hp (hg.mono hV1)).mono ?_
 rintro r V2 ⟨⟨x,e,rfl,hx⟩,hV2⟩
 have hV02:=hV1.trans hV2
 refine⟨x,e,rfl, ?_⟩
 cases hS:bF p with
 | none=>
   rw[hS]at hx
   obtain⟨rfl,rfl⟩:=hx
   exact aa (fun _=>⟨rfl,hV02⟩) (fun h=>absurd h (by decide))
 | some l=>
   rw[hS]at hx
   obtain⟨rfl,hx⟩:=hx
   refine aa (fun h=>absurd h (by decide)) (fun _=>(Di (h.mono hV02) hx (bq hM).1 (fq hM)).mono ?_)
   rintro r V3 ⟨rfl,hV3⟩
   show ∃_ _,we _=_∧_
   cases hG:goF t 0 l with
   | ok q=>exact⟨_,_,rfl,by simp only [hG];rfl,hV02.trans hV3⟩
   | error e=>exact⟨_,_,rfl,by simp only [hG];rfl,hV02.trans hV3⟩
theorem uA {s:Sl} {t:Tre} {p:ByteArray} {V:View} (h:SlR V s t) (hp:p.size≤9223372036854775807) (hg:Glo V):af Tryz.prog 170 ⟨[aZ s,.string p]⟩ V fun r V' =>r=FN (aH t p)∧V.Le V' :=by
 refine KR ?_
 unfold CD
 refine fun _=>(iI h).mono ?_
 rintro r V1 ⟨rfl,hV1⟩
 unfold aH
 refine⟨_,rfl,aa (fun hb=>⟨by rw[if_neg (by rw[aM hb];decide)];rfl,hV1⟩) (fun hb=> ?_)⟩
 have hM:=aD hb
 rw[if_pos hM]
 refine(vZ hp (hg.mono hV1)).mono ?_
 rintro r V2 ⟨rfl,hV2⟩
 have hV02:=hV1.trans hV2
 refine⟨_,_,_,rfl,aa (fun h0=> ?_) (fun h0=> ?_)⟩
 ·have h0:=of_decide_eq_false (aM h0)
  rw[if_neg h0];exact⟨rfl,hV02⟩
 ·have h0:=of_decide_eq_true (aD h0)
  rw[if_pos h0]
  refine(mm (h.mono hV02) (x9 hp) (hg.mono hV02)).mono ?_
  rintro r V3 ⟨rfl,hV3⟩
  have hV03:=hV02.trans hV3
  have hn:=h.n
  cases hF:b8 t (dX p).1 with
  | error e=>
    have he:=gj hF
    refine⟨0,e,rfl,aa (fun _=>⟨rfl,hV03⟩) (fun hc=> ?_)⟩
    exact absurd (of_decide_eq_true (aD hc)) he
  | ok q=>
    have hq:=gE hF
    refine⟨q,0,rfl,aa (fun h=>absurd h (by decide)) (fun _=> ?_)⟩
    have h12:=(bq hM).1
    obtain⟨ad2,sq,en,ha2,hc2,hN⟩:=(h.mono hV03).bO (i:=q) (by omega)
    refine⟨by omega,by omega,ad2,ha2,_,av hc2 0 rfl,aa (fun hb=> ?_) (fun hb=> ?_)⟩
    ·have hb:¬ak t q=2:=of_decide_eq_false (aM hb)
     simp only [if_neg hb];exact⟨rfl,hV03⟩
    ·have hb:ak t q=2:=of_decide_eq_true (aD hb)
     simp only [if_pos hb];exact⟨rfl,hV03⟩
theorem Dk {n:Nod} {s e:Sl} {V:View} :af Tryz.prog 184 ⟨[eN n s e]⟩ V fun r V' =>r= .bool (decide (n.kind=0))∧V' =V:=by
 refine K3 ?_
 unfold CP
 exact fun _=>⟨rfl,rfl⟩
theorem FO {s:Sl} {t:Tre} {V:View} (h:SlR V s t):af Tryz.prog 168 ⟨[aZ s]⟩ V fun r V' =>r= .int .i64 (bE t)∧V.Le V' :=by
 refine KP ?_
 unfold CB
 refine fun _=>(iI h).mono ?_
 rintro r V1 ⟨rfl,hV1⟩
 unfold bE
 refine⟨_,rfl,aa (fun hb=>⟨by rw[if_neg (by rw[aM hb];decide)],hV1⟩) (fun hb=> ?_)⟩
 rw[if_pos (aD hb)]
 refine(lM (xs:= []) (ys:= []) (p:=fun n=>decide (n.kind=0)) (h.mono hV1) (fun n _ a b _=>Dk (n:=n) (s:=a) (e:=b))).mono ?_
 rintro r V2 ⟨rfl,rfl⟩
 exact⟨_,rfl,rfl,hV1⟩
theorem Dl {s:Sl} {z:Addr} {a:Int} {V:View} (h:V.cell? (z.add 0)=some (.slice s.a s.n s.c)):af Tryz.prog 172 ⟨[.int .i64 a,.pointer (some z)]⟩ V fun r V' =>r= .bool (decide (0≤a)&&decide (a<s.n))∧V' =V:=by
 refine KT ?_
 unfold CF
 refine ai (fun q V' =>q.1=(decide (0≤a)&&decide (a<s.n))∧V' =V) (aa (fun h0=>⟨s,h,by rw[h0];rfl,rfl⟩) (fun h0=>⟨by rw[h0];rfl,rfl⟩)) ?_
 rintro⟨q,⟨⟩⟩ V1 ⟨h1,hV⟩
 simp only at h1 hV
 subst h1 hV
 exact⟨rfl,rfl⟩
theorem Ak {s:Sl} {t:Tre} {a b:Int} {V:View} (h:SlR V s t):af Tryz.prog 148 ⟨[aZ s,.int .i64 a,.int .i64 b]⟩ V fun r V' =>r= .bool (eF t a b)∧V.Le V' :=by
 refine Kv ?_
 unfold Ch
 intro z hz
 have hp:=View.bB (o:= .cells ⟨[.slice s.a s.n s.c]⟩ 40 (0,0)) hz
 have hsee:(V.put z (.cells ⟨[.slice s.a s.n s.c]⟩ 40 (0,0))).see z=some (.cells ⟨[.slice s.a s.n s.c]⟩ 40 (0,0)):=View.ah _ _ _
 generalize V.put z (.cells ⟨[.slice s.a s.n s.c]⟩ 40 (0,0))=V0 at*
 have hcell:∀ {V' :View},V0.Le V' →V'.cell? ⟨z,0,none⟩=some (.slice s.a s.n s.c):=fun hV=>bX (hV.see _ _ hsee) rfl
 have h' :=h.mono hp
 have hn:=h.n
 refine ai (fun q V' =>q.1=eF t a b∧V0.Le V') ⟨s,bT.2 (hcell (View.Le.refl _)),(iI h').mono ?_⟩ ?_
 ·rintro r V1 ⟨rfl,hV1⟩
  unfold eF
  refine⟨_,rfl,aa (fun hM=> ?_) (fun hM=>⟨by rw[hM];rfl,hV1⟩)⟩
  have h12:=(bq hM).1
  have hs12:(s.n:Int)=12:=by omega
  refine(Dl (s:=s) (hcell hV1)).mono ?_
  rintro r V2 ⟨rfl,rfl⟩
  rw[hs12]
  refine⟨_,rfl,aa (fun ha=>(Dl (s:=s) (hcell hV1)).mono ?_) (fun ha=>⟨by
   rw[hM,Bool.true_and,ha];rfl,hV1⟩)⟩
  rintro r V3 ⟨rfl,rfl⟩
  rw[hs12]
  refine⟨_,rfl,aa (fun hb=> ?_) (fun hb=>⟨by
   rw[hM,Bool.true_and,ha,Bool.true_and,hb];rfl,hV1⟩)⟩
  have ha' :0≤a∧a<12:=by simpa using ha
  have hb' :0≤b∧b<12:=by simpa using hb
  obtain⟨ad,sq,en,had,hc,hN⟩:=(h'.mono hV1).bO (i:=a.toNat) (by omega)
  refine⟨s,hcell hV1,by omega,by omega,ad,had,_,av hc 0 rfl,aa (fun hk=> ?_) (fun hk=>⟨?_,hV1⟩)⟩
  ·have hk:ak t a.toNat=2:=of_decide_eq_true hk
   have hbl:=vH (a:=a.toNat) (h'.mono hV1) h12 (by omega) (fun n hn e he=>by have:=fq hM n hn e he;omega)
   rw[show((a.toNat:Nat):Int)=a by omega]at hbl
   refine⟨s,bT.2 (hcell hV1),hbl.mono ?_⟩
   rintro r V4 ⟨y,rfl,hy,hV4⟩
   have hyn:=hy.n
   simp only [List.length_map,List.length_range]at hyn
   obtain⟨ad4,hx4,ha4,hc4⟩:=hy.bool (x:=b) (by omega) (by omega)
   refine⟨y,rfl,by omega,by omega,ad4,ha4,_,hc4, ?_,hV1.trans hV4⟩
   rw[hM,decide_eq_true ha'.1,decide_eq_true ha'.2,decide_eq_true hb'.1,decide_eq_true hb'.2,decide_eq_true hk]
   simp
  ·have hk:¬ak t a.toNat=2:=of_decide_eq_false hk
   rw[decide_eq_false hk];simp
 ·rintro⟨q,⟨⟩⟩ V1 ⟨h1,hV⟩
  simp only at h1
  subst h1
  exact⟨rfl,hp.trans hV⟩
theorem ya:bE firstT=1:=by
 unfold bE;rw[if_pos mj];decide
theorem Reach.trans {t:Tre} {a b c:Nat} (h:Reach t a b) (k:Reach t b c):Reach t a c:=by
 induction k with
 | refl=>exact h
 | step _ hx ih=>exact .step ih hx
theorem ia (n:Nod) (t:Tre):dh (n::t)=n.az++dh t:=by simp [dh]
theorem ic {t:Tre} {x:Int} :∀ {i:Nat} {e:Ent},e∈(t.getD i default).az→e.node=x→1≤aL t x:=by
 intro i e he hx
 refine List.countP_pos_iff.2 ⟨e, ?_,decide_eq_true hx⟩
 unfold dh
 refine List.mem_flatMap.2 ⟨t.getD i default, ?_,he⟩
 by_cases hi:i<t.length
 ·exact jx hi
 ·rw[List.getD_eq_getElem?_getD,List.getElem?_eq_none (by omega)]at he
  cases he
theorem od {x:Int} :∀ {t:Tre} {i p:Nat} {e e' :Ent},i<p→e∈(t.getD i default).az→e' ∈(t.getD p default).az→e.node=x→e'.node=x→2≤aL t x
 | [],i,p,e,e',_,he,_,_,_=>by cases he
 | n::t,0,p+1,e,e',_,he,he',hx,hx' =>by
   unfold aL
   rw[ia,List.countP_append]
   have h1:1≤n.az.countP fun x_1=>decide (x_1.node=x):=List.countP_pos_iff.2 ⟨e,by simpa using he,decide_eq_true hx⟩
   have h2:1≤aL t x:=ic (i:=p) (e:=e') (by simpa using he') hx'
   unfold aL at h2
   omega
 | n::t,i+1,p+1,e,e',hip,he,he',hx,hx' =>by
   have h:=od (t:=t) (i:=i) (p:=p) (by omega) (by simpa using he) (by simpa using he') hx hx'
   unfold aL at h ⊢
   rw[ia,List.countP_append]
   omega
theorem yb {t:Tre} {x:Int} (h:aL t x≤1) {i p:Nat} {e e' :Ent} (he:e∈(t.getD i default).az) (he' :e' ∈(t.getD p default).az) (hx:e.node=x) (hx' :e'.node=x):i=p:=by
 rcases Nat.lt_trichotomy i p with hl | hl | hl
 ·have:=od hl he he' hx hx';omega
 ·exact hl
 ·have:=od hl he' he hx' hx;omega
structure j6 (t:Tre):Prop where
 len:t.length=12
 may:∀n∈t,bA n=true
 top:ak t 0=2
 dir:∀i,i<12→ak t i=2→Reach t 0 i∧(i=0∨aL t i=1)
 file:∀i,i<12→ak t i=1→(t.getD i default).links=(aL t i:Nat)
 none:∀i,i<12→ak t i=0→aL t i=0
theorem bP {t:Tre} (h:aY t=true):j6 t:=by
 obtain⟨h12,hall,hk,hh,_⟩:=bq h
 have hc:∀i,i<12→(cnt 12 (dh t)).getD i 0=(aL t i:Nat):=fun i hi=>k8 12 (dh t) hi
 refine⟨h12,hall,hk,fun i hi hk2=> ?_,fun i hi hk1=> ?_,fun i hi hk0=> ?_⟩
 ·have hb:=hh i hi
  rw[hc i hi]at hb
  unfold gB at hb
  rw[if_pos (show(t.getD i default).kind=2 from hk2)]at hb
  simp only [Bool.and_eq_true,Bool.or_eq_true,decide_eq_true_eq]at hb
  exact⟨fH.1 hb.1,by omega⟩
 ·have hb:=hh i hi
  rw[hc i hi]at hb
  unfold gB at hb
  rw[if_neg (show ¬(t.getD i default).kind=2 by unfold ak at hk1;omega),if_pos (show(t.getD i default).kind=1 from hk1)]at hb
  exact of_decide_eq_true hb
 ·have hb:=hh i hi
  rw[hc i hi]at hb
  unfold gB at hb
  rw[if_neg (show ¬(t.getD i default).kind=2 by unfold ak at hk0;omega),if_neg (show ¬(t.getD i default).kind=1 by unfold ak at hk0;omega)]at hb
  have:=of_decide_eq_true hb
  omega
theorem j6.at {t:Tre} (h:j6 t) {i:Nat} (hi:i<12):bA (t.getD i default)=true:=h.may _ (jx (by rw[h.len];exact hi))
theorem j6.ent {t:Tre} (h:j6 t) {i:Nat} {e:Ent} (he:e∈ag t i):i<12∧ak t i=2∧1≤e.node∧e.node<12∧cG e.name=true∧ak t e.node.toNat≠0:=by
 have hi:i<12:=by
  apply Classical.byContradiction
  intro hi
  unfold ag at he
  rw[List.getD_eq_getElem?_getD,List.getElem?_eq_none (by rw[h.len];omega)]at he
  cases he
 have hm:=h.at hi
 have hn:=fo (bV hm) he
 refine⟨hi, ?_,hn.1,hn.2.1,hn.2.2,fun hk=> ?_⟩
 ·rcases fI hm with hk | hk | hk
  ·exfalso
   unfold bA at hm
   rw[if_pos hk]at hm
   simp only [Bool.and_eq_true,decide_eq_true_eq]at hm
   have:(t.getD i default).az= []:=List.eq_nil_of_length_eq_zero hm.2
   unfold ag at he
   rw[this]at he;cases he
  ·exfalso
   unfold bA at hm
   rw[if_neg (by omega),if_pos hk]at hm
   unfold fG at hm
   simp only [Bool.and_eq_true,decide_eq_true_eq]at hm
   have:(t.getD i default).az= []:=List.eq_nil_of_length_eq_zero hm.1.2
   unfold ag at he
   rw[this]at he;cases he
  ·exact hk
 ·have h0:=h.none e.node.toNat (by omega) hk
  have h1:=ic (t:=t) (x:=((e.node.toNat:Nat):Int)) (i:=i) he (by omega)
  omega
theorem j6.zero {t:Tre} (h:j6 t) {i:Nat} {e:Ent} (he:e∈ag t i):e.node.toNat≠0:=by
 have:=h.ent he;omega
theorem qL {t:Tre} {a b:Nat} (h:ag t a= []) (hr:Reach t a b):b=a:=by
 induction hr with
 | refl=>rfl
 | step _ hx ih=>
   subst ih
   unfold ag at h
   rw[h]at hx;cases hx
theorem wg {t:Tre} {a b:Nat} (hr:Reach t a b):a=b∨∃e∈ag t a,Reach t e.node.toNat b:=by
 induction hr with
 | refl=>exact .inl rfl
 | step h hx ih=>
   right
   rcases ih with rfl | ⟨e,he,hr⟩
   ·exact⟨_,hx,.refl⟩
   ·exact⟨e,he,.step hr hx⟩
theorem j6.uB {t:Tre} (h:j6 t) {a:Nat} {e0:Ent} (he0:e0∈ag t a) (hba:Reach t e0.node.toNat a):False:=by
 have ha:=(h.ent he0).1
 let C:Nat→Prop:=fun x=>Reach t a x∧Reach t x a
 have pred:∀x,C x→∃p e,C p∧e∈ag t p∧e.node.toNat=x:=by
  rintro x ⟨h1,h2⟩
  by_cases hx:x=a
  ·subst hx
   rcases Nat.decEq e0.node.toNat x with hne | heq
   ·cases hba with
    | refl=>exact absurd rfl hne
    | step hp hx=>exact⟨_,_,⟨(Reach.step .refl he0).trans hp,.step .refl hx⟩,hx,rfl⟩
   ·exact⟨x,e0,⟨.refl,.refl⟩,he0,heq⟩
  ·cases h1 with
   | refl=>exact absurd rfl hx
   | step hp he=>exact⟨_,_,⟨hp,(Reach.step .refl he).trans h2⟩,he,rfl⟩
 have dirC:∀x,C x→ak t x=2:=by
  rintro x ⟨h1,h2⟩
  by_cases hx:x=a
  ·subst hx
   exact(h.ent he0).2.1
  ·rcases wg h2 with e | ⟨e,he,_⟩
   ·exact absurd e hx
   ·exact(h.ent he).2.1
 have no:∀x,Reach t 0 x→¬C x:=by
  intro x hr
  induction hr with
  | refl=>
    intro hc
    obtain⟨p,e,_,he,h0⟩:=pred _ hc
    exact h.zero he h0
  | @step i e hi he ih=>
    intro hc
    obtain⟨p,e',hp,he',hx⟩:=pred _ hc
    have hq:=h.ent he
    have hq' :=h.ent he'
    have hd:=(h.dir e.node.toNat (by omega) (dirC _ hc)).2
    have hn1:aL t ((e.node.toNat:Nat):Int)≤1:=by
     rcases hd with h0 | h1
     ·exact absurd h0 (h.zero he)
     ·omega
    have:=yb hn1 he he' (by omega) (by omega)
    subst this
    exact ih hp
 have hCa:C a:=⟨.refl,.refl⟩
 exact no a (h.dir a ha (dirC a hCa)).1 hCa
theorem j6.met {t:Tre} (h:j6 t) {c:Nat} (hc:c<12):iV t 0 c=(decide (0<aL t c) ||decide (c=0)):=by
 rw[Bool.eq_iff_iff,fH,Bool.or_eq_true,decide_eq_true_eq,decide_eq_true_eq]
 constructor
 ·intro hr
  cases hr with
  | refl=>exact .inr rfl
  | step _ hx=>have:=h.ent hx;exact .inl (ic hx (by omega))
 ·rintro(hn | rfl)
  ·obtain⟨e,he,hd⟩:=List.countP_pos_iff.1 hn
   obtain⟨n,hn,hen⟩:=List.mem_flatMap.1 he
   obtain⟨j,hj,rfl⟩:=List.getElem_of_mem hn
   have hx:e∈ag t j:=by unfold ag;rw[aB hj];exact hen
   have hq:=h.ent hx
   have:=Reach.step (h.dir j hq.1 hq.2.1).1 hx
   rwa [of_decide_eq_true hd,Int.toNat_natCast]at this
  ·exact .refl
theorem kI {t:Tre} (hM:aY t=true) {a b:Nat} (ha:a<12) (hb:b<12):eF t a b=(decide (ak t a=2)&&iV t a b):=by
 unfold eF
 rw[hM,decide_eq_true (show(0:Int)≤a by omega),decide_eq_true (show(a:Int)<12 by omega),decide_eq_true (show(0:Int)≤b by omega),decide_eq_true (show(b:Int)<12 by omega)]
 simp
theorem wh {t:Tre} (h:aY t=true):t.length≤1000∧∀n∈t,fJ n:=by
 have:=qy h
 exact⟨by omega,this.2⟩
structure wj (ops:Array Oper) (listed:Array Bool) (m:Nat):Prop where
 size:listed.size=ops.size
 bit:∀j d,j<ops.size→listed.getD j d=Nat.testBit m j
 out:∀j,ops.size≤j→Nat.testBit m j=false
theorem wj.get {ops:Array Oper} {listed:Array Bool} {m:Nat} (h:wj ops listed m) (j:Nat):listed.getD j false=Nat.testBit m j:=by
 by_cases hj:j<ops.size
 ·exact h.bit j false hj
 ·rw[h.out j (by omega)]
  unfold Array.getD
  rw[dif_neg (by rw[h.size];exact hj)]
theorem wj.set {ops:Array Oper} {listed:Array Bool} {m:Nat} (h:wj ops listed m) {i:Nat} (hi:i<ops.size):wj ops (listed.setIfInBounds i true) (m ||| 2 ^ i):=by
 refine⟨by rw[Array.size_setIfInBounds];exact h.size,fun j d hj=> ?_,fun j hj=> ?_⟩
 ·have hb:=h.bit j d hj
  rw[Nat.testBit_or,Nat.testBit_two_pow]
  rw[Array.getD_eq_getD_getElem?]at hb ⊢
  rw[Array.getElem?_setIfInBounds]
  by_cases e:i=j
  ·subst e
   rw[if_pos rfl,if_pos (by rw[h.size];exact hi)]
   simp
  ·rw[if_neg e,hb,decide_eq_false e,Bool.or_false]
 ·rw[Nat.testBit_or,Nat.testBit_two_pow,h.out j hj,decide_eq_false (by omega)];rfl
inductive MT where
 | nil
 | fl (m:Nat) (t:MT)
 | alt (m:Nat) (d:Bool) (t r:MT)
theorem yf {s t:Sl} {l m:List Int} {V:View} (h:SlR V s l) (k:SlR V t m):af Tryz.prog 26 ⟨[.slice s.a s.n s.c,.slice t.a t.n t.c]⟩ V fun r V' =>r= .bool (decide (l=m))∧V' =V:=by
 refine Gw ?_
 unfold Bo
 have hn:=h.n;have hlim:=h.lim;have kn:=k.n
 refine aa (fun hne=>⟨?_,rfl⟩) (fun heq=> ?_)
 ·have hne:¬(s.n:Int)=t.n:=by simpa using hne
  rw[decide_eq_false]
  intro e;subst e;omega
 have heq:(s.n:Int)=t.n:=by simpa using heq
 refine bh (k:= .int .i64) (fun(x:Int) V' =>V' =V∧0≤x∧x≤s.n∧l.take x.toNat=m.take x.toNat) (fun(x:Int) _=>s.n-x.toNat) ⟨rfl,by omega,by omega,rfl⟩ ?_
 rintro(x:Int) V' ⟨rfl,h0,h1,h2⟩
 refine aa (fun hlt=> ?_) (fun hge=> ?_)
 ·have hlt:x<s.n:=by simpa using hlt
  obtain⟨ad,hx,ha,hc,_⟩:=h.int h0 hlt
  obtain⟨ad',hx',ha',hc',_⟩:=k.int h0 (by omega)
  refine⟨trivial,V',View.Le.refl _,h0,hlt,ad,ha,_,hc,h0,by omega,ad',ha',_,hc',aa (fun hb=>⟨?_,rfl⟩) (fun hb=>⟨au (by omega) (by omega),⟨rfl,by omega,by omega, ?_⟩,by omega⟩)⟩
  ·have hb:¬l[x.toNat]=m[x.toNat]:=by simpa using hb
   rw[decide_eq_false]
   intro e;subst e;exact hb rfl
  ·have hb:l[x.toNat]=m[x.toNat]:=by simpa using hb
   rw[show(x+1).toNat=x.toNat+1 by omega,List.take_add_one,List.take_add_one,h2,List.getElem?_eq_getElem hx,List.getElem?_eq_getElem hx',hb]
 ·have hge:¬x<s.n:=by simpa using hge
  rw[List.take_of_length_le (by omega),List.take_of_length_le (by omega)]at h2
  exact⟨by rw[h2];simp,rfl⟩
theorem yg {s t:Sl} {l m:List Ent} {V:View} (h:SlR V s l) (k:SlR V t m):af Tryz.prog 59 ⟨[.slice s.a s.n s.c,.slice t.a t.n t.c]⟩ V fun r V' =>r= .bool (decide (l=m))∧V' =V:=by
 refine Mn ?_
 unfold G2
 have hn:=h.n;have hlim:=h.lim;have kn:=k.n
 refine aa (fun hne=>⟨?_,rfl⟩) (fun heq=> ?_)
 ·have hne:¬(s.n:Int)=t.n:=by simpa using hne
  rw[decide_eq_false]
  intro e;subst e;omega
 have heq:(s.n:Int)=t.n:=by simpa using heq
 refine bh (k:= .int .i64) (fun(x:Int) V' =>V' =V∧0≤x∧x≤s.n∧l.take x.toNat=m.take x.toNat) (fun(x:Int) _=>s.n-x.toNat) ⟨rfl,by omega,by omega,rfl⟩ ?_
 rintro(x:Int) V' ⟨rfl,h0,h1,h2⟩
 refine aa (fun hlt=> ?_) (fun hge=> ?_)
 ·have hlt:x<s.n:=by simpa using hlt
  obtain⟨ad,hx,ha,hc,_⟩:=h.ent h0 hlt
  obtain⟨ad',hx',ha',hc',_⟩:=k.ent h0 (by omega)
  refine⟨trivial,V',View.Le.refl _,h0,hlt,ad,ha,_,_,hc,h0,by omega,ad',ha',_,_,hc',trivial, ?_⟩
  rw[Dd]
  refine aa (fun hb=>⟨?_,rfl⟩) (fun hb=>⟨au (by omega) (by omega),⟨rfl,by omega,by omega, ?_⟩,by omega⟩)
  ·have hb:¬l[x.toNat]=m[x.toNat]:=by simpa using hb
   rw[decide_eq_false]
   intro e;subst e;exact hb rfl
  ·have hb:l[x.toNat]=m[x.toNat]:=by simpa using hb
   rw[show(x+1).toNat=x.toNat+1 by omega,List.take_add_one,List.take_add_one,h2,List.getElem?_eq_getElem hx,List.getElem?_eq_getElem hx',hb]
 ·have hge:¬x<s.n:=by simpa using hge
  rw[List.take_of_length_le (by omega),List.take_of_length_le (by omega)]at h2
  exact⟨by rw[h2];simp,rfl⟩
theorem wk {a b:Nod} {s e s' e' :Sl} {V:View} (h:dJ V s e a) (k:dJ V s' e' b):af Tryz.prog 30 ⟨[eN a s e,eN b s' e']⟩ V fun r V' =>r= .bool (decide (a=b))∧V' =V:=by
 refine LY ?_
 unfold GA
 rw[De]
 refine fun _ _=>ai (fun q V' =>q.1=(decide (a.kind=b.kind)&&decide (a.links=b.links)&&decide (a.size=b.size)&&(decide (a.an=b.an)&&decide (a.az=b.az)))∧V' =V) (aa (fun hb=>(yf h.an k.an).mono ?_) (fun hb=>⟨?_,rfl⟩)) ?_
 ·have hb:(decide (a.kind=b.kind)&&decide (a.links=b.links)&&decide (a.size=b.size))=true:=by
   cases h1:decide (a.kind=b.kind)<;>cases h2:decide (a.links=b.links)<;>cases h3:decide (a.size=b.size)<;>simp_all
  rw[hb]
  rintro r V1 ⟨rfl,rfl⟩
  refine⟨_,rfl,aa (fun h1=>(yg h.az k.az).mono ?_) (fun h1=>⟨by rw[h1];rfl,rfl⟩)⟩
  rintro r V2 ⟨rfl,rfl⟩
  exact⟨_,rfl,by rw[h1];rfl,rfl⟩
 ·have hb:(decide (a.kind=b.kind)&&decide (a.links=b.links)&&decide (a.size=b.size))=false:=by
   cases h1:decide (a.kind=b.kind)<;>cases h2:decide (a.links=b.links)<;>cases h3:decide (a.size=b.size)<;>simp_all
  rw[hb];rfl
 ·rintro⟨q,⟨⟩⟩ V1 ⟨h1,hV⟩
  simp only at h1 hV
  subst h1 hV
  exact⟨rfl,rfl⟩
theorem kJ {s t:Sl} {l m:Tre} {V:View} (h:SlR V s l) (k:SlR V t m):af Tryz.prog 17 ⟨[aZ s,aZ t]⟩ V fun r V' =>r= .bool (decide (l=m))∧V' =V:=by
 refine LL ?_
 unfold Gm
 have hn:=h.n;have hlim:=h.lim;have kn:=k.n
 refine fun _ _=>aa (fun hne=>⟨?_,rfl⟩) (fun heq=> ?_)
 ·have hne:¬(s.n:Int)=t.n:=by simpa using hne
  rw[decide_eq_false]
  intro e;subst e;omega
 have heq:(s.n:Int)=t.n:=by simpa using heq
 refine bh (k:= .int .i64) (fun(x:Int) V' =>V' =V∧0≤x∧x≤s.n∧l.take x.toNat=m.take x.toNat) (fun(x:Int) _=>s.n-x.toNat) ⟨rfl,by omega,by omega,rfl⟩ ?_
 rintro(x:Int) V' ⟨rfl,h0,h1,h2⟩
 refine aa (fun hlt=> ?_) (fun hge=> ?_)
 ·have hlt:x<s.n:=by simpa using hlt
  obtain⟨ad,sq,en,hx,ha,hc,hN⟩:=h.nod h0 hlt
  obtain⟨ad',sq',en',hx',ha',hc',hN'⟩:=k.nod h0 (by omega)
  refine⟨trivial,V',View.Le.refl _,h0,hlt,ad,ha,_,_,_,sq,en,hc,h0,by omega,ad',ha',_,_,_,sq',en',hc',(wk hN hN').mono ?_⟩
  rintro r V1 ⟨rfl,rfl⟩
  refine⟨_,rfl,aa (fun hb=>⟨?_,rfl⟩) (fun hb=>⟨au (by omega) (by omega),⟨rfl,by omega,by omega, ?_⟩,by omega⟩)⟩
  ·have hb:¬l[x.toNat]=m[x.toNat]:=of_decide_eq_false (aM hb)
   rw[decide_eq_false]
   intro e;subst e;exact hb rfl
  ·have hb:l[x.toNat]=m[x.toNat]:=of_decide_eq_true (aD hb)
   rw[show(x+1).toNat=x.toNat+1 by omega,List.take_add_one,List.take_add_one,h2,List.getElem?_eq_getElem hx,List.getElem?_eq_getElem hx',hb]
 ·have hge:¬x<s.n:=by simpa using hge
  rw[List.take_of_length_le (by omega),List.take_of_length_le (by omega)]at h2
  exact⟨by rw[h2];simp,rfl⟩
def nv (W U:View) (s:Sl) (sz:Nat):Prop:=s.n=0∨∃r all e,s.a=some ⟨r,0,none⟩∧W.see r=some (.cells ⟨all⟩ e (0,0))∧s.n*sz≤all.length∧U.see r=none∧s.n≤140737488355328
theorem nv.lim {W U:View} {s:Sl} {sz:Nat} (h:nv W U s sz):s.n≤140737488355328:=by
 rcases h with h | ⟨_,_,_,_,_,_,_,h⟩
 ·omega
 ·exact h
theorem b5 {U V:View} (h:U.Le V) {r:Nat} (hr:V.see r=none):U.see r=none:=by
 cases hs:U.see r with
 | none=>rfl
 | some o=>rw[h.see _ _ hs]at hr;cases hr
theorem nv.mono {W W' U U' :View} {s:Sl} {sz:Nat} (hW:W.Le W') (hU:U'.Le U) (h:nv W U s sz):nv W' U' s sz:=by
 rcases h with h | ⟨r,all,e,h1,h2,h3,h4,h5⟩
 ·exact .inl h
 ·exact .inr ⟨r,all,e,h1,hW.see _ _ h2,h3,b5 hU h4,h5⟩
theorem gm {V:View} {x:Sl} {ad:Addr} (h:x.a=some ad):(V.minus x).see ad.block=none:=by
 unfold View.minus;rw[h,aO,if_pos rfl]
structure SpN where
 u:View
instance:Rep SpN where
 sz:=5
 pos:=by decide
 rep W vs x:=∃(k l z:Int) (sq en:Sl),vs= [.int .i64 k,.int .i64 l,.int .i64 z,.slice sq.a sq.n sq.c,.slice en.a en.n en.c]∧nv W x.u sq 1∧nv W x.u en 2
 len h:=by obtain⟨_,_,_,_,_,h,_⟩:=h;rw[h];rfl
 one h:=by obtain⟨_,_,_,_,_,h,_⟩:=h;rw[h];rfl
 mono hV h:=let ⟨k,l,z,sq,en,h,a,b⟩:=h;⟨k,l,z,sq,en,h,a.mono hV (View.Le.refl _),b.mono hV (View.Le.refl _)⟩
structure Cop (U V:View) (x:Sl) (t:Tre) (cs:List Value):Prop where
 buf:Buf V x 63 5 cs
 rep:aR (V.minus x) cs t
 sp:aR (V.minus x) cs (List.replicate t.length (SpN.mk U))
 le:U.Le (V.minus x)
def Shp (W W' :View):Prop:=∀r all e,W.see r=some (.cells ⟨all⟩ e (0,0))→∃all',W'.see r=some (.cells ⟨all'⟩ e (0,0))∧all'.length=all.length
theorem nv.shp {W W' U:View} {s:Sl} {sz:Nat} (hS:Shp W W') (h:nv W U s sz):nv W' U s sz:=by
 rcases h with h | ⟨r,all,e,h1,h2,h3,h4,h7⟩
 ·exact .inl h
 ·obtain⟨all',h5,h6⟩:=hS r all e h2
  exact .inr ⟨r,all',e,h1,h5,by omega,h4,h7⟩
theorem zm {W W' :View} (hS:Shp W W'):∀ {cs:List Value} {l:List SpN},aR W cs l→aR W' cs l
 | _,[],h=>h
 | _,_::_,⟨vs,us,e,⟨k,l,z,sq,en,h1,h2,h3⟩,h⟩=>⟨vs,us,e,⟨k,l,z,sq,en,h1,h2.shp hS,h3.shp hS⟩,zm hS h⟩
structure Spo (U V:View) (x:Sl) (m:Nat) (cs:List Value):Prop where
 buf:Buf V x 63 5 cs
 sp:aR (V.minus x) cs (List.replicate m (SpN.mk U))
 le:U.Le (V.minus x)
theorem Spo.write {U V:View} {x:Sl} {m:Nat} {cs:List Value} (h:Spo U V x m cs) {s:Sl} {sz:Nat} (hs:nv (V.minus x) U s sz) {off:Nat} (ho:off<s.n*sz) (v:Value):
  ∃ad,s.a=some ad∧ay V (ad.add off) 1∧Spo U (V.sets (ad.add off) [v]) x m cs:=by
 rcases hs with hs | ⟨r,all,e,h1,h2,h3,h4,_⟩
 ·rw[hs]at ho;omega
 ·have hsee:=(View.aj V x).see _ _ h2
  have e0:(⟨r,0,none⟩:Addr).add off=⟨r,off,none⟩:=by rw[aW];simp
  have hne:∀ad,x.a=some ad→ad.block≠r:=fun ad ha e=>by
   have:=gm (V:=V) ha
   rw[e,h2]at this;cases this
  refine⟨_,h1, ?_, ?_⟩
  ·rw[e0];exact bJ hsee (by omega)
  ·rw[e0,bn hsee]
   have hput:∀i,i≠r→(V.put r (.cells ⟨bD all off [v]⟩ e (0,0))).see i=V.see i:=fun i hi=>View.aF V _ hi
   have hms:∀i,i≠r→((V.put r (.cells ⟨bD all off [v]⟩ e (0,0))).minus x).see i=(V.minus x).see i:=fun i hi=>by
    unfold View.minus
    split
    ·exact hput i hi
    ·simp only [aO,hput i hi]
   have hmr:((V.put r (.cells ⟨bD all off [v]⟩ e (0,0))).minus x).see r=some (.cells ⟨bD all off [v]⟩ e (0,0)):=by
    unfold View.minus
    split
    ·exact View.ah _ _ _
    ·rename_i ad ha
     rw[aO,if_neg (fun e=>hne ad ha e.symm)];exact View.ah _ _ _
   refine⟨⟨h.buf.len,h.buf.le,h.buf.lim, ?_⟩,zm ?_ h.sp,⟨?_, ?_, ?_⟩⟩
   ·rcases h.buf.own with h5 | ⟨q,al,h5,h6,h7⟩
    ·exact .inl h5
    ·exact .inr ⟨q,al,h5,by rw[hput q (hne _ h5)];exact h6,h7⟩
   ·intro i al e' hi
    by_cases hir:i=r
    ·subst hir
     rw[h2]at hi
     cases hi
     exact⟨_,hmr,by show(all.set off v).length=_;rw[List.length_set]⟩
    ·exact⟨al,by rw[hms i hir];exact hi,rfl⟩
   ·have h7:=h.le.size
    have h8:(V.minus x).size=V.size:=by unfold View.minus;split<;>rfl
    have h9:((V.put r (.cells ⟨bD all off [v]⟩ e (0,0))).minus x).size=max V.size (r+1):=by unfold View.minus;split<;>rfl
    omega
   ·intro i o hi
    have hir:i≠r:=fun e=>by rw[e,h4]at hi;cases hi
    rw[hms i hir];exact h.le.see _ _ hi
   ·have h8:(V.minus x).out=V.out:=by unfold View.minus;split<;>rfl
    have h9:((V.put r (.cells ⟨bD all off [v]⟩ e (0,0))).minus x).out=V.out:=by unfold View.minus;split<;>rfl
    rw[h9, ←h8];exact h.le.out
theorem Spo.node {U V:View} {x:Sl} {m:Nat} {cs:List Value} (h:Spo U V x m cs) {i:Nat} (hi:i<m):
  ∃ad sq en,x.a=some ad∧cs[i*5+3]? =some (.slice sq.a sq.n sq.c)∧cs[i*5+4]? =some (.slice en.a en.n en.c)∧nv (V.minus x) U sq 1∧nv (V.minus x) U en 2:=by
 obtain⟨vs,⟨k,l,z,sq,en,rfl,h1,h2⟩,hg⟩:=h.sp.get i (by simpa using hi)
 rw[List.getElem_replicate]at h1 h2
 have hn:=h.buf.n_eq (α:=SpN) h.sp
 rw[List.length_replicate]at hn
 rcases h.buf.own with ⟨_,h5⟩ | ⟨q,al,h5,_⟩
 ·have:=h.buf.le;omega
 ·exact⟨_,sq,en,h5,hg 3 _ rfl,hg 4 _ rfl,h1,h2⟩
theorem Spo.cell {U V:View} {x:Sl} {m:Nat} {cs:List Value} (h:Spo U V x m cs) {ad:Addr} (ha:x.a=some ad) {i j:Nat} {v:Value} (hv:cs[i*5+j]? =some v):V.cell? ((ad.add (i*5)).add j)=some v:=by
 have:=h.buf.row
 rw[ha]at this
 rw[Addr.add_add]
 exact this.2 _ _ hv
theorem Spo.rows {U V' :View} {x:Sl} {m:Nat} {cs:List Value} (h:Spo U V' x m cs) {i:Nat} (hi:i<m) {s:Sl} {j:Nat} (hj:j=3∨j=4) (hv:cs[i*5+j]? =some (.slice s.a s.n s.c)):nv (V'.minus x) U s (if j=3 then 1 else 2):=by
 obtain⟨ad,sq,en,_,h3,h4,h5,h6⟩:=h.node hi
 rcases hj with rfl | rfl
 ·rw[h3]at hv
  simp only [Option.some.injEq,Value.slice.injEq]at hv
  obtain⟨e1,e2,e3⟩:=hv
  have:sq=s:=by cases sq;cases s;simp_all
  rw[if_pos rfl, ←this];exact h5
 ·rw[h4]at hv
  simp only [Option.some.injEq,Value.slice.injEq]at hv
  obtain⟨e1,e2,e3⟩:=hv
  have:en=s:=by cases en;cases s;simp_all
  rw[if_neg (by decide), ←this];exact h6
theorem Cop.slR {U V:View} {x:Sl} {t:Tre} {cs:List Value} (h:Cop U V x t cs):SlR V x t:=h.buf.slR h.rep (View.aj _ _)
theorem Cop.vle {U V:View} {x:Sl} {t:Tre} {cs:List Value} (h:Cop U V x t cs):U.Le V:=h.le.trans (View.aj _ _)
theorem Buf.swap {V:View} {x y:Sl} {e e' :TypeId} {sz sz' :Nat} {cs ds:List Value} (h:Buf (V.minus y) x e sz cs) (k:Buf V y e' sz' ds):Buf (V.minus x) y e' sz' ds:=by
 refine⟨k.len,k.le,k.lim, ?_⟩
 rcases k.own with k1 | ⟨r,all,k1,k2,k3⟩
 ·exact .inl k1
 ·refine .inr ⟨r,all,k1, ?_,k3⟩
  rcases h.own with ⟨h1,_⟩ | ⟨q,all',h1,h2,_⟩
  ·unfold View.minus;rw[h1];exact k2
  ·unfold View.minus at h2 ⊢
   rw[k1]at h2
   rw[h1]
   simp only [aO]at h2 ⊢
   split at h2
   ·cases h2
   ·rename_i hne;rw[if_neg (fun e=>hne e.symm)];exact k2
theorem b9 (V:View) (x y:Sl):((V.minus x).minus y).Le ((V.minus y).minus x):=by
 refine⟨by unfold View.minus;split<;>split<;>exact Nat.le_refl _,fun i o ho=> ?_,by unfold View.minus;split<;>split<;>rfl⟩
 unfold View.minus at*
 cases hx:x.a<;>cases hy:y.a<;>simp only [hx,hy,aO]at ho ⊢
 ·exact ho
 ·exact ho
 ·exact ho
 ·split at ho
  ·cases ho
  ·rename_i h1
   split at ho
   ·cases ho
   ·rename_i h2
    rw[if_neg h2,if_neg h1];exact ho
theorem af.nw {P:Program} {f:FuncId} {args:Array Value} {V:View} {x y:Sl} {e e' :TypeId} {sz sz' :Nat} {cs ds:List Value} {K:Value→View→Prop} (h:af P f args ((V.minus x).minus y) K) (hx:Buf V x e sz cs) (hy:Buf (V.minus x) y e' sz' ds):
  af P f args V fun r V' =>∃U',K r U' ∧U'.Le ((V'.minus x).minus y)∧Buf V' x e sz cs∧Buf (V'.minus x) y e' sz' ds:=by
 refine((h.kZ hy).kZ hx).mono ?_
 rintro r V' ⟨U2,⟨U1,hk,h1,hy2⟩,h2,hx2⟩
 exact⟨U1,hk,h1.trans (aN h2 y),hx2,hy2.mono h2⟩
theorem sX {U V:View} {a:Addr} {k:Nat} (hU:U.Le V) (h:ay U a k) (vs:List Value):
  ay V a k∧(U.sets a vs).Le (V.sets a vs)∧∀W:View,W.Le V→W.see a.block=none→W.Le (V.sets a vs):=by
 obtain⟨h0,c,e,f,h1,h2,h3⟩:=h
 have h4:=hU.see _ _ h1
 refine⟨⟨h0,c,e,f,h4,h2,h3⟩, ?_,fun W hW hn=> ?_⟩
 ·unfold View.sets
  simp only [h1,h4]
  refine⟨?_,fun i o hi=> ?_,hU.out⟩
  ·show max U.size _≤max V.size _
   have:=hU.size;omega
  ·show(if i=a.block then _ else V.see i)=some o
   change (if i=a.block then _ else U.see i)=some o at hi
   split at hi
   ·rename_i e;rw[if_pos e];exact hi
   ·rename_i e;rw[if_neg e];exact hU.see _ _ hi
 ·unfold View.sets
  simp only [h4]
  refine⟨?_,fun i o hi=> ?_,hW.out⟩
  ·show W.size≤max V.size _
   have:=hW.size;omega
  ·have hne:i≠a.block:=fun e=>by rw[e,hn]at hi;cases hi
   rw[View.aF V _ hne];exact hW.see _ _ hi
theorem iM {U:View} {a:Addr} {vs:List Value} {i:Nat} (h:i≠a.block):(U.sets a vs).see i=U.see i:=by
 unfold View.sets
 split
 ·exact View.aF U _ h
 ·rfl
def Dj (V A B:View):Prop:=∀i o,V.see i=none→A.see i=some o→B.see i=none
theorem Dj.symm {V A B:View} (h:Dj V A B):Dj V B A:=fun i o hv hb=>by
 cases ha:A.see i with
 | none=>rfl
 | some o' =>rw[h i o' hv ha]at hb;cases hb
theorem cD.blk {V0 V:View} {x:Sl} {t:Tre} (h:cD V0 V x t) {ad:Addr} (ha:x.a=some ad):V0.see ad.block=none:=by
 obtain⟨cs,_,_,hle⟩:=h
 exact b5 hle (gm ha)
structure mo where
 n:Nod
 f:Option Sl
instance:Rep mo where
 sz:=5
 pos:=by decide
 rep W vs x:=∃sq en:Sl,vs= [.int .i64 x.n.kind,.int .i64 x.n.links,.int .i64 x.n.size,.slice sq.a sq.n sq.c,.slice en.a en.n en.c]∧inI .i64 x.n.kind∧inI .i64 x.n.links∧inI .i64 x.n.size∧(match x.f with
  | none=>SlR W sq x.n.an
  | some y=>sq=y)∧SlR W en x.n.az
 len h:=by obtain⟨_,_,h,_⟩:=h;rw[h];rfl
 one h:=by obtain⟨_,_,h,_⟩:=h;rw[h];rfl
 mono {V V' vs x} hV h:=by
  obtain⟨sq,en,h,a,b,c,d,e⟩:=h
  refine⟨sq,en,h,a,b,c, ?_,e.mono hV⟩
  cases hf:x.f with
  | none=>rw[hf]at d;exact SlR.mono hV d
  | some y=>rw[hf]at d;exact d
def flg (y:Sl):Nat→Tre→List mo
 | _,[]=> []
 | 0,n::l=>⟨n,some y⟩::l.map fun n=>⟨n,none⟩
 | k+1,n::l=>⟨n,none⟩::flg y k l
theorem jy {y:Sl} :∀ {k:Nat} {l:Tre},l.length≤k→flg y k l=l.map fun n=>(⟨n,none⟩:mo)
 | 0,[],_=>rfl
 | 0,_::_,h=>by simp at h
 | _+1,[],_=>rfl
 | k+1,n::l,h=>by
   simp only [flg,List.map_cons]
   rw[jy (by simpa using h)]
theorem qM {y:Sl} (n:Nod):∀(k:Nat) (l:Tre),flg y k (l++ [n])=flg y k l++ [⟨n,if k=l.length then some y else none⟩]
 | 0,[]=>rfl
 | 0,m::l=>by simp [flg]
 | k+1,[]=>by simp [flg]
 | k+1,m::l=>by
   simp only [List.cons_append,flg,qM n k l,List.length_cons,Nat.add_right_cancel_iff]
theorem cJ {y:Sl} :∀(k:Nat) (l:Tre),(flg y k l).length=l.length
 | 0,[]=>rfl
 | _+1,[]=>rfl
 | 0,n::l=>by simp [flg]
 | k+1,n::l=>by simp [flg,cJ k l]
theorem sY {W:View} :∀ {cs:List Value} {l:Tre},aR W cs (l.map fun n=>(⟨n,none⟩:mo))→aR W cs l
 | _,[],h=>h
 | _,n::l,⟨vs,us,e,⟨sq,en,h1,h2,h3,h4,h5,h6⟩,h⟩=>⟨vs,us,e,⟨sq,en,h1,h2,h3,h4,h5,h6⟩,sY h⟩
theorem qN {W:View} {y:Sl} {q:List Int} (hy:SlR W y q):∀ {k:Nat} {cs:List Value} {l:Tre},aR W cs (flg y k l)→k<l.length→aR W cs (l.set k { l.getD k default with an:=q })
 | _,_,[],_,hk=>absurd hk (by simp)
 | 0,_,n::l,⟨vs,us,e,⟨sq,en,h1,h2,h3,h4,h5,h6⟩,h⟩,_=>by
   refine⟨vs,us,e,⟨sq,en,h1,h2,h3,h4, ?_,h6⟩,sY h⟩
   have h5:sq=y:=h5
   rw[h5];exact hy
 | k+1,_,n::l,⟨vs,us,e,⟨sq,en,h1,h2,h3,h4,h5,h6⟩,h⟩,hk=>⟨vs,us,e,⟨sq,en,h1,h2,h3,h4,h5,h6⟩,by
   have:=qN hy h (by simpa using hk)
   simpa using this⟩
theorem yh {y:Sl} :∀ {k:Nat} {l:Tre} (h:k<(flg y k l).length),(flg y k l)[k]=⟨l.getD k default,some y⟩
 | _,[],h=>absurd h (by simp [flg])
 | 0,n::l,_=>by simp [flg]
 | k+1,n::l,h=>by
   simp only [flg,List.getElem_cons_succ]
   rw[yh]
   simp
theorem uC {n:Nod} {s e:Sl} {V:View} (h:dJ V s e n) (hl:fJ n):af Tryz.prog 123 ⟨[eN n s e]⟩ V fun r V' =>∃(s' e' :Sl) (qs:List Value),r=eN n s' e' ∧Buf V' s' 3 1 qs∧v7 qs n.an∧SlR (V'.minus s') e' n.az∧V.Le (V'.minus s'):=by
 refine BS ?_
 unfold xN
 have l1:=hl.1
 have l2:=hl.2
 refine fun _ _=>⟨trivial,V,View.Le.refl _, ?_⟩
 refine ew (α:=Int) (V0:=V) (l:= []) (m:=n.an) rfl (cs:= []) (Buf.nil _ _ _) rfl h.an (View.Le.refl _) (by simp;omega) (by simp;omega) ?_
 intro x V1 cs hb hr hV1
 have hV1' :=hV1.trans (View.aj _ _)
 refine⟨hV1', ?_⟩
 refine ew (α:=Ent) (V0:=V1) (l:= []) (m:=n.az) rfl (cs:= []) (Buf.nil _ _ _) rfl (h.az.mono hV1') (View.Le.refl _) (by simp;omega) (by simp;omega) ?_
 intro y V2 cs2 hb2 hr2 hV2
 have hV2' :=hV2.trans (View.aj _ _)
 have hxb:Buf (V2.minus y) x 3 1 cs:=hb.mono hV2
 have hsw:=hxb.swap hb2
 refine⟨x,y,cs,rfl,hb.mono hV2',hr.int, ?_,hV1.trans (aN hV2' x)⟩
 exact hsw.slR (W:=(V2.minus y).minus x) (hr2.ent).rep ((aN (View.aj _ _) x))
structure dR (V V' :View) (x y:Sl) (k:Nat) (t:Tre) (cs ds:List Value):Prop where
 buf:Buf V' x 63 5 cs
 row:Buf (V'.minus x) y 3 1 ds
 rep:aR ((V'.minus x).minus y) cs (flg y k t)
 ints:v7 ds (t.getD k default).an
 le:V.Le ((V'.minus x).minus y)
theorem oW {s:Sl} {t:Tre} {V:View} {k:Nat} (hk:k<t.length) (h:SlR V s t) (hl:t.length≤1000∧∀n∈t,fJ n):af Tryz.prog 77 ⟨[aZ s]⟩ V fun r V' =>∃(x y:Sl) (cs ds:List Value),r=aZ x∧dR V V' x y k t cs ds:=by
 refine Hq ?_
 unfold Bt
 have hn:=h.n
 refine fun _ _ _=>di (k:= .int .i64) (l:= .sl) (fun(j:Int) (x:Sl) V' =>∃(i:Nat) (y:Sl) (cs ds:List Value),j=i∧i≤t.length∧Buf V' x 63 5 cs∧Buf (V'.minus x) y 3 1 ds∧aR ((V'.minus x).minus y) cs (flg y k (t.take i))∧V.Le ((V'.minus x).minus y)∧
   ((i≤k∧y=⟨none,0,0⟩∧ds= [])∨(k<i∧v7 ds (t.getD k default).an))) (fun(j:Int) _ _=>t.length-j.toNat) ⟨0,⟨none,0,0⟩,[],[],rfl,by omega,Buf.nil _ _ _,Buf.nil _ _ _,(by cases k<;>rfl),View.Le.refl _,.inl ⟨by omega,rfl,rfl⟩⟩ ?_
 rintro(j:Int) (x:Sl) V1 ⟨i,y,cs,ds,rfl,hi,hb,hy,hr,hle,hcase⟩
 have hV1:=hle.trans ((View.aj _ _).trans (View.aj _ _))
 refine aa (fun hlt=> ?_) (fun hge=> ?_)
 ·have hlt:i<t.length:=by have:=of_decide_eq_true hlt;omega
  obtain⟨ad,sq,en,ha,hc,hN⟩:=(h.mono hle).bO hlt
  have hmem:t.getD i default∈t:=by rw[aB hlt];exact List.getElem_mem _
  have hx:=hb.n_eq (α:=mo) hr
  rw[cJ,List.length_take]at hx
  have hl1:=hl.1
  have htk:t.take (i+1)=t.take i++ [t.getD i default]:=by rw[List.take_add_one,List.getElem?_eq_getElem hlt,aB hlt];rfl
  have hil:(t.take i).length=i:=by rw[List.length_take];omega
  have hsn:∀y,flg y k (t.take (i+1))=flg y k (t.take i)++ [⟨t.getD i default,if k=i then some y else none⟩]:=fun y=>by rw[htk,qM,hil]
  refine⟨by omega,by omega,ad,ha,_,_,_,sq,en,aV ((View.aj _ _).trans (View.aj _ _)) hc,fun _=>⟨trivial,V,hV1,((uC hN (hl.2 _ hmem)).nw hb hy).mono ?_⟩⟩
  rintro r V2 ⟨U,⟨s',e',qs,rfl,hs',hqs,he',hU⟩,hU2,hb2,hy2⟩
  have hstep:=(hU.trans (View.aj _ _)).trans hU2
  have hle2:=hle.trans hstep
  have hV2:=hle2.trans ((View.aj _ _).trans (View.aj _ _))
  refine⟨_,_,_,s',e',rfl,hV2,fun r hr1=> ?_⟩
  have hfr:=View.ax hr1
  refine⟨hV2.trans (View.bB hfr), ?_⟩
  rcases hcase with ⟨hik,rfl,rfl⟩ | ⟨hki,hds⟩
  ·by_cases hke:k=i
   ·subst hke
    have hs2:Buf (V2.minus x) s' 3 1 qs:=hs'.mono hU2
    have hU3:(U.minus s').Le ((V2.minus x).minus s'):=aN hU2 s'
    have hold:aR ((V2.minus x).minus s') cs (flg s' k (t.take k)):=by
     rw[jy (by omega)]
     rw[jy (by omega)]at hr
     exact hr.mono (hU.trans hU3)
    have hp:=aN (bz (x:=x) (o:= .cells ⟨[.int .i64 (t.getD k default).kind,.int .i64 (t.getD k default).links,.int .i64 (t.getD k default).size,.slice s'.a s'.n s'.c,.slice e'.a e'.n e'.c]⟩ 63 (0,0)) hfr) s'
    refine oP (α:=mo) (V0:=(V2.minus x).minus s') rfl (hb2.put hfr) (hs2.mono (bz hfr)) hold (d:=⟨t.getD k default,some s'⟩) (vs:= [.int .i64 (t.getD k default).kind,.int .i64 (t.getD k default).links,.int .i64 (t.getD k default).size,.slice s'.a s'.n s'.c,.slice e'.a e'.n e'.c]) ⟨s',e',rfl,hN.kind,hN.links,hN.size,rfl,he'.mono hU3⟩ hp (dx (View.ah _ _ _) rfl) (by rw[cJ];omega) (by rw[cJ];omega) ?_
    intro z V3 hz hzs hzr hzle
    refine⟨au (by omega) (by omega),⟨k+1,s',_,qs,by omega,by omega,hz,hzs, ?_,(hle.trans (hU.trans hU3)).trans hzle,.inr ⟨by omega,hqs⟩⟩,by omega⟩
    rw[hsn,if_pos rfl];exact hzr.mono hzle
   ·have hd:dJ (V2.minus x) s' e' (t.getD i default):=⟨hN.kind,hN.links,hN.size,(hs'.slR (W:=U) hqs.rep (View.Le.refl _)).mono hU2,(he'.mono (View.aj _ _)).mono hU2⟩
    have hp:=bz (x:=x) (o:= .cells ⟨[.int .i64 (t.getD i default).kind,.int .i64 (t.getD i default).links,.int .i64 (t.getD i default).size,.slice s'.a s'.n s'.c,.slice e'.a e'.n e'.c]⟩ 63 (0,0)) hfr
    refine oP (α:=mo) (y:=⟨none,0,0⟩) (V0:=V2.minus x) (e' :=3) (sz' :=1) (ds:= []) rfl (hb2.put hfr) (Buf.nil _ _ _) (hr.mono hstep) (d:=⟨t.getD i default,none⟩) (vs:= [.int .i64 (t.getD i default).kind,.int .i64 (t.getD i default).links,.int .i64 (t.getD i default).size,.slice s'.a s'.n s'.c,.slice e'.a e'.n e'.c]) ⟨s',e',rfl,hd.kind,hd.links,hd.size,hd.an,hd.az⟩ hp (dx (View.ah _ _ _) rfl) (by rw[cJ];omega) (by rw[cJ];omega) ?_
    intro z V3 hz hzs hzr hzle
    refine⟨au (by omega) (by omega),⟨i+1,⟨none,0,0⟩,_,[],by omega,by omega,hz,hzs, ?_,hle2.trans hzle,.inl ⟨by omega,rfl,rfl⟩⟩,by omega⟩
    rw[hsn,if_neg hke];exact hzr.mono hzle
  ·have hd:dJ ((V2.minus x).minus y) s' e' (t.getD i default):=⟨hN.kind,hN.links,hN.size,(hs'.slR (W:=U) hqs.rep (View.Le.refl _)).mono hU2,(he'.mono (View.aj _ _)).mono hU2⟩
   have hp:=aN (bz (x:=x) (o:= .cells ⟨[.int .i64 (t.getD i default).kind,.int .i64 (t.getD i default).links,.int .i64 (t.getD i default).size,.slice s'.a s'.n s'.c,.slice e'.a e'.n e'.c]⟩ 63 (0,0)) hfr) y
   refine oP (α:=mo) (V0:=(V2.minus x).minus y) rfl (hb2.put hfr) (hy2.mono (bz hfr)) (hr.mono hstep) (d:=⟨t.getD i default,none⟩) (vs:= [.int .i64 (t.getD i default).kind,.int .i64 (t.getD i default).links,.int .i64 (t.getD i default).size,.slice s'.a s'.n s'.c,.slice e'.a e'.n e'.c]) ⟨s',e',rfl,hd.kind,hd.links,hd.size,hd.an,hd.az⟩ hp (dx (View.ah _ _ _) rfl) (by rw[cJ];omega) (by rw[cJ];omega) ?_
   intro z V3 hz hzs hzr hzle
   refine⟨au (by omega) (by omega),⟨i+1,y,_,ds,by omega,by omega,hz,hzs, ?_,hle2.trans hzle,.inr ⟨by omega,hds⟩⟩,by omega⟩
   rw[hsn,if_neg (by omega)];exact hzr.mono hzle
 ·have hge:i=t.length:=by have:=of_decide_eq_false hge;omega
  subst hge
  rw[List.take_length]at hr
  rcases hcase with ⟨h1,_⟩ | ⟨_,hds⟩
  ·omega
  ·exact⟨x,y,cs,ds,rfl,hb,hy,hr,hds,hle⟩
theorem dR.vle {V V' :View} {x y:Sl} {k:Nat} {t:Tre} {cs ds:List Value} (h:dR V V' x y k t cs ds):V.Le V' :=h.le.trans ((View.aj _ _).trans (View.aj _ _))
theorem dR.slR {V V' :View} {x y:Sl} {k:Nat} {t:Tre} {cs ds:List Value} (h:dR V V' x y k t cs ds) (hk:k<t.length):SlR V' x t:=by
 have hA:((V'.minus x).minus y).Le V' :=(View.aj _ _).trans (View.aj _ _)
 have hy:SlR V' y (t.getD k default).an:=(h.row.mono (View.aj _ _)).slR (W:=V') h.ints.rep (View.Le.refl _)
 have:=qN hy (h.rep.mono hA) hk
 have e:t.set k { t.getD k default with an:=(t.getD k default).an } =t:=by
  show t.set k (t.getD k default)=t
  rw[aB hk];exact List.set_getElem_self _
 rw[e]at this
 exact h.buf.slR this (View.Le.refl _)
theorem dR.cell {V V' :View} {x y:Sl} {k:Nat} {t:Tre} {cs ds:List Value} (h:dR V V' x y k t cs ds) (hk:k<t.length):∃ad,x.a=some ad∧V'.cell? ((ad.add (k*5)).add 3)=some (.slice y.a y.n y.c):=by
 have hk' :k<(flg y k t).length:=by rw[cJ];exact hk
 obtain⟨vs,hv,hg⟩:=h.rep.get k hk'
 rw[yh hk']at hv
 obtain⟨sq,en,rfl,_,_,_,h5,_⟩:=hv
 have h5:sq=y:=h5
 subst h5
 have hn:=h.buf.n_eq (α:=mo) h.rep
 rw[cJ]at hn
 rcases h.buf.own with ⟨_,h1⟩ | ⟨q,al,h1,_⟩
 ·have:=h.buf.le;omega
 ·refine⟨_,h1, ?_⟩
  have hrow:=h.buf.row
  rw[h1]at hrow
  rw[Addr.add_add]
  exact hrow.2 _ _ (hg 3 _ rfl)
theorem dR.set {V V' :View} {x y:Sl} {k:Nat} {t:Tre} {cs ds:List Value} (h:dR V V' x y k t cs ds) (hk:k<t.length) {i:Nat} (hi:i<(t.getD k default).an.length) {v:Int} (hv:inI .i64 v):
  ∃ad,y.a=some ad∧V.see ad.block=none∧ay V' (ad.add (i*1)) 1∧SlR (V'.sets (ad.add (i*1)) [.int .i64 v]) x (t.set k { t.getD k default with an:=(t.getD k default).an.set i v }):=by
 have hyB:=h.row.mono (View.aj V' x)
 obtain⟨ad,ha,h1,h2,h3,h4⟩:=hyB.FF (α:=Int) (i:=i) (d:=v) (vs:= [.int .i64 v]) h.ints.rep ⟨rfl,hv⟩ hi
 refine⟨ad,ha,b5 h.le (gm ha),h1, ?_⟩
 have hxB:=(h.row.swap h.buf).mono h4
 have hA:=((b9 V' x y).trans (View.aj _ _)).trans (h4.trans (View.aj _ _))
 have hx2:=hxB.mono (View.aj _ _)
 exact hx2.slR (qN (h2.slR h3 (View.aj _ _)) (h.rep.mono hA) hk) (View.Le.refl _)
theorem Lg {s:Sl} {t:Tre} {V V2:View} {k:Nat} {G:Sl→View→Prop} (h:SlR V s t) (hl:t.length≤1000∧∀n∈t,fJ n) (hk:k<t.length) (h2:V.Le V2) (hG:∀x y U V' cs ds,dR V U x y k t cs ds→U.Le V' →V2.Le V' →Dj V V2 U→G x V'):
  af Tryz.prog 77 ⟨[aZ s]⟩ V2 fun r V' =>∃y:Sl,r=aZ y∧G y V' :=by
 refine(af.xK (K:=fun r V' =>∃(x y:Sl) (cs ds:List Value),r=aZ x∧dR V V' x y k t cs ds) h2 ((oW hk h hl).mono fun r V' ⟨x,y,cs,ds,h1,h2⟩=>⟨⟨x,y,cs,ds,h1,h2⟩,h2.vle⟩)).mono ?_
 rintro r V3 ⟨U,⟨x,y,cs,ds,rfl,hO⟩,_,hU,h23,hno⟩
 exact⟨x,rfl,hG x y U V3 cs ds hO hU h23 hno⟩
theorem Dj.of {V A A' B:View} (h:Dj V A B) (hA:A'.Le A):Dj V A' B:=fun i o hv ha=>h i o hv (hA.see _ _ ha)
structure Ns (V V' :View) (u v w:Sl) (t:Tre) (k:Nat):Prop where
 ex:∃(Uu Uv Uw:View) (y:Sl) (cs ds:List Value),cD V Uu u t∧cD V Uv v t∧dR V Uw w y k t cs ds∧Uu.Le V' ∧Uv.Le V' ∧Uw.Le V' ∧Dj V Uu Uv∧Dj V Uu Uw∧Dj V Uv Uw
theorem yj {s:Sl} {l:List Int} {V:View} (h:SlR V s l) (hl:l.length≤1000):af Tryz.prog 56 ⟨[.slice s.a s.n s.c]⟩ V fun r V' =>∃(x:Sl) (cs:List Value),r= .slice x.a x.n x.c∧Buf V' x 3 1 cs∧v7 cs l∧V.Le (V'.minus x):=by
 refine Bq ?_
 unfold zj
 refine aa (fun hnil=> ?_) (fun _ r hr=> ?_)
 ·have ha:s.a=none:=Option.isNone_iff_eq_none.1 hnil
  have hl0:l= []:=by
   cases l with
   | nil=>rfl
   | cons b l=>obtain⟨ad,vs,h1,_⟩:=h.get 0 (by simp);rw[ha]at h1;cases h1
  subst hl0
  exact⟨⟨none,0,0⟩,[],rfl,Buf.nil _ _ _,(show aR V [] ([]:List Int)from rfl).int,View.Le.refl V⟩
 ·have hfr:V.see r=none:=View.ax hr
  refine ew (α:=Int) (V0:=V) (l:= []) (m:=l) rfl (cs:= []) ⟨rfl,Nat.le_refl _,Nat.zero_le _,.inr ⟨r,[],rfl,View.ah _ _ _,rfl,rfl⟩⟩ rfl (h.mono ?_) ?_ (by simp;omega) (by simp;omega) ?_
  ·exact aT hfr (View.Le.refl _)
  ·exact aT hfr (View.Le.refl _)
  ·intro z V' cs' hb hr' hle
   exact⟨z,cs',rfl,hb,hr'.int,hle⟩
theorem Al {n:Nod} {s e:Sl} {V:View} (h:dJ V s e n) (hl:fJ n):af Tryz.prog 71 ⟨[eN n s e]⟩ V fun r V' =>∃(s' e' :Sl) (qs:List Value),r=eN n s' e' ∧Buf V' s' 3 1 qs∧v7 qs n.an∧SlR (V'.minus s') e' n.az∧V.Le (V'.minus s'):=by
 refine Hh ?_
 unfold Bs
 refine fun _ _=>⟨trivial,V,View.Le.refl _,(yj h.an hl.1).mono ?_⟩
 rintro r V1 ⟨x,cs,rfl,hb,hqs,hV1⟩
 refine⟨x,rfl,hV1.trans (View.aj _ _),((sR (h.az.mono hV1) hl.2).kZ hb).mono ?_⟩
 rintro r V2 ⟨U,⟨y,rfl,hy,hU⟩,hU2,hb2⟩
 exact⟨y,rfl,x,y,cs,rfl,hb2,hqs,hy.mono hU2,hV1.trans (hU.trans hU2)⟩
theorem wm {s:Sl} {t:Tre} {V:View} {k:Nat} (hk:k<t.length) (h:SlR V s t) (hl:t.length≤1000∧∀n∈t,fJ n):af Tryz.prog 38 ⟨[aZ s]⟩ V fun r V' =>∃(x y:Sl) (cs ds:List Value),r=aZ x∧dR V V' x y k t cs ds:=by
 refine GI ?_
 unfold Bp
 have hn:=h.n
 refine fun _ _ _=>di (k:= .int .i64) (l:= .sl) (fun(j:Int) (x:Sl) V' =>∃(i:Nat) (y:Sl) (cs ds:List Value),j=i∧i≤t.length∧Buf V' x 63 5 cs∧Buf (V'.minus x) y 3 1 ds∧aR ((V'.minus x).minus y) cs (flg y k (t.take i))∧V.Le ((V'.minus x).minus y)∧
   ((i≤k∧y=⟨none,0,0⟩∧ds= [])∨(k<i∧v7 ds (t.getD k default).an))) (fun(j:Int) _ _=>t.length-j.toNat) ⟨0,⟨none,0,0⟩,[],[],rfl,by omega,Buf.nil _ _ _,Buf.nil _ _ _,(by cases k<;>rfl),View.Le.refl _,.inl ⟨by omega,rfl,rfl⟩⟩ ?_
 rintro(j:Int) (x:Sl) V1 ⟨i,y,cs,ds,rfl,hi,hb,hy,hr,hle,hcase⟩
 have hV1:=hle.trans ((View.aj _ _).trans (View.aj _ _))
 refine aa (fun hlt=> ?_) (fun hge=> ?_)
 ·have hlt:i<t.length:=by have:=of_decide_eq_true hlt;omega
  obtain⟨ad,sq,en,ha,hc,hN⟩:=(h.mono hle).bO hlt
  have hmem:t.getD i default∈t:=by rw[aB hlt];exact List.getElem_mem _
  have hx:=hb.n_eq (α:=mo) hr
  rw[cJ,List.length_take]at hx
  have hl1:=hl.1
  have htk:t.take (i+1)=t.take i++ [t.getD i default]:=by rw[List.take_add_one,List.getElem?_eq_getElem hlt,aB hlt];rfl
  have hil:(t.take i).length=i:=by rw[List.length_take];omega
  have hsn:∀y,flg y k (t.take (i+1))=flg y k (t.take i)++ [⟨t.getD i default,if k=i then some y else none⟩]:=fun y=>by rw[htk,qM,hil]
  refine⟨by omega,by omega,ad,ha,_,_,_,sq,en,aV ((View.aj _ _).trans (View.aj _ _)) hc,fun _=>⟨trivial,V,hV1,((Al hN (hl.2 _ hmem)).nw hb hy).mono ?_⟩⟩
  rintro r V2 ⟨U,⟨s',e',qs,rfl,hs',hqs,he',hU⟩,hU2,hb2,hy2⟩
  have hstep:=(hU.trans (View.aj _ _)).trans hU2
  have hle2:=hle.trans hstep
  have hV2:=hle2.trans ((View.aj _ _).trans (View.aj _ _))
  refine⟨_,_,_,s',e',rfl,hV2,fun r hr1=> ?_⟩
  have hfr:=View.ax hr1
  refine⟨hV2.trans (View.bB hfr), ?_⟩
  rcases hcase with ⟨hik,rfl,rfl⟩ | ⟨hki,hds⟩
  ·by_cases hke:k=i
   ·subst hke
    have hs2:Buf (V2.minus x) s' 3 1 qs:=hs'.mono hU2
    have hU3:(U.minus s').Le ((V2.minus x).minus s'):=aN hU2 s'
    have hold:aR ((V2.minus x).minus s') cs (flg s' k (t.take k)):=by
     rw[jy (by omega)]
     rw[jy (by omega)]at hr
     exact hr.mono (hU.trans hU3)
    have hp:=aN (bz (x:=x) (o:= .cells ⟨[.int .i64 (t.getD k default).kind,.int .i64 (t.getD k default).links,.int .i64 (t.getD k default).size,.slice s'.a s'.n s'.c,.slice e'.a e'.n e'.c]⟩ 63 (0,0)) hfr) s'
    refine oP (α:=mo) (V0:=(V2.minus x).minus s') rfl (hb2.put hfr) (hs2.mono (bz hfr)) hold (d:=⟨t.getD k default,some s'⟩) (vs:= [.int .i64 (t.getD k default).kind,.int .i64 (t.getD k default).links,.int .i64 (t.getD k default).size,.slice s'.a s'.n s'.c,.slice e'.a e'.n e'.c]) ⟨s',e',rfl,hN.kind,hN.links,hN.size,rfl,he'.mono hU3⟩ hp (dx (View.ah _ _ _) rfl) (by rw[cJ];omega) (by rw[cJ];omega) ?_
    intro z V3 hz hzs hzr hzle
    refine⟨au (by omega) (by omega),⟨k+1,s',_,qs,by omega,by omega,hz,hzs, ?_,(hle.trans (hU.trans hU3)).trans hzle,.inr ⟨by omega,hqs⟩⟩,by omega⟩
    rw[hsn,if_pos rfl];exact hzr.mono hzle
   ·have hd:dJ (V2.minus x) s' e' (t.getD i default):=⟨hN.kind,hN.links,hN.size,(hs'.slR (W:=U) hqs.rep (View.Le.refl _)).mono hU2,(he'.mono (View.aj _ _)).mono hU2⟩
    have hp:=bz (x:=x) (o:= .cells ⟨[.int .i64 (t.getD i default).kind,.int .i64 (t.getD i default).links,.int .i64 (t.getD i default).size,.slice s'.a s'.n s'.c,.slice e'.a e'.n e'.c]⟩ 63 (0,0)) hfr
    refine oP (α:=mo) (y:=⟨none,0,0⟩) (V0:=V2.minus x) (e' :=3) (sz' :=1) (ds:= []) rfl (hb2.put hfr) (Buf.nil _ _ _) (hr.mono hstep) (d:=⟨t.getD i default,none⟩) (vs:= [.int .i64 (t.getD i default).kind,.int .i64 (t.getD i default).links,.int .i64 (t.getD i default).size,.slice s'.a s'.n s'.c,.slice e'.a e'.n e'.c]) ⟨s',e',rfl,hd.kind,hd.links,hd.size,hd.an,hd.az⟩ hp (dx (View.ah _ _ _) rfl) (by rw[cJ];omega) (by rw[cJ];omega) ?_
    intro z V3 hz hzs hzr hzle
    refine⟨au (by omega) (by omega),⟨i+1,⟨none,0,0⟩,_,[],by omega,by omega,hz,hzs, ?_,hle2.trans hzle,.inl ⟨by omega,rfl,rfl⟩⟩,by omega⟩
    rw[hsn,if_neg hke];exact hzr.mono hzle
  ·have hd:dJ ((V2.minus x).minus y) s' e' (t.getD i default):=⟨hN.kind,hN.links,hN.size,(hs'.slR (W:=U) hqs.rep (View.Le.refl _)).mono hU2,(he'.mono (View.aj _ _)).mono hU2⟩
   have hp:=aN (bz (x:=x) (o:= .cells ⟨[.int .i64 (t.getD i default).kind,.int .i64 (t.getD i default).links,.int .i64 (t.getD i default).size,.slice s'.a s'.n s'.c,.slice e'.a e'.n e'.c]⟩ 63 (0,0)) hfr) y
   refine oP (α:=mo) (V0:=(V2.minus x).minus y) rfl (hb2.put hfr) (hy2.mono (bz hfr)) (hr.mono hstep) (d:=⟨t.getD i default,none⟩) (vs:= [.int .i64 (t.getD i default).kind,.int .i64 (t.getD i default).links,.int .i64 (t.getD i default).size,.slice s'.a s'.n s'.c,.slice e'.a e'.n e'.c]) ⟨s',e',rfl,hd.kind,hd.links,hd.size,hd.an,hd.az⟩ hp (dx (View.ah _ _ _) rfl) (by rw[cJ];omega) (by rw[cJ];omega) ?_
   intro z V3 hz hzs hzr hzle
   refine⟨au (by omega) (by omega),⟨i+1,y,_,ds,by omega,by omega,hz,hzs, ?_,hle2.trans hzle,.inr ⟨by omega,hds⟩⟩,by omega⟩
   rw[hsn,if_neg (by omega)];exact hzr.mono hzle
 ·have hge:i=t.length:=by have:=of_decide_eq_false hge;omega
  subst hge
  rw[List.take_length]at hr
  rcases hcase with ⟨h1,_⟩ | ⟨_,hds⟩
  ·omega
  ·exact⟨x,y,cs,ds,rfl,hb,hy,hr,hds,hle⟩
theorem wo {W:View} {y:Sl} {q:List Int} :∀ {k:Nat} {cs:List Value} {l:Tre},aR W cs (flg y k l)→aR W cs (flg y k (l.set k { l.getD k default with an:=q }))
 | _,_,[],h=>by simpa using h
 | 0,_,n::l,⟨vs,us,e,⟨sq,en,h1,h2,h3,h4,h5,h6⟩,h⟩=>⟨vs,us,e,⟨sq,en,h1,h2,h3,h4,h5,h6⟩,h⟩
 | k+1,_,n::l,⟨vs,us,e,h0,h⟩=>⟨vs,us,e,h0,by
   have:=wo (y:=y) (q:=q) h
   simpa using this⟩
theorem zn {y:Sl} :∀ {k:Nat} {l:Tre} {n:Nod},k<l.length→(flg y k l).set k ⟨n,some y⟩=flg y k (l.set k n)
 | _,[],_,h=>absurd h (by simp)
 | 0,m::l,n,_=>by simp [flg]
 | k+1,m::l,n,h=>by
   simp only [List.set_cons_succ,flg]
   rw[zn (by simpa using h)]
theorem cq {t:Tre} {k:Nat} {n:Nod} (hk:k<t.length):(t.set k n).getD k default=n:=by
 rw[aB (by simpa using hk),List.getElem_set_self]
theorem dR.put {V V' :View} {x y:Sl} {k:Nat} {t:Tre} {cs ds:List Value} (h:dR V V' x y k t cs ds) (hk:k<t.length) {i:Nat} (hi:i<(t.getD k default).an.length) {v:Int} (hv:inI .i64 v):
  ∃ad ds',y.a=some ad∧ay V' (ad.add (i*1)) 1∧dR V (V'.sets (ad.add (i*1)) [.int .i64 v]) x y k (t.set k { t.getD k default with an:=(t.getD k default).an.set i v }) cs ds' :=by
 have hyB:=h.row.mono (View.aj V' x)
 obtain⟨ad,ha,h1,h2,h3,h4⟩:=hyB.FF (α:=Int) (i:=i) (d:=v) (vs:= [.int .i64 v]) h.ints.rep ⟨rfl,hv⟩ hi
 have hxB:=(h.row.swap h.buf).mono h4
 have hrow:=hxB.swap h2
 have hbuf:Buf (V'.sets (ad.add (i*1)) [.int .i64 v]) x 63 5 cs:=hxB.mono (View.aj _ _)
 have hmm:((V'.minus x).minus y).Le (((V'.sets (ad.add (i*1)) [.int .i64 v]).minus x).minus y):=
  (b9 V' x y).trans ((aN h4 x).trans (b9 _ y x))
 refine⟨ad,_,ha,h1,hbuf,hrow,wo (h.rep.mono hmm), ?_,h.le.trans hmm⟩
 rw[cq hk]
 exact h3.int
theorem dR.size {V V' :View} {x y:Sl} {k:Nat} {t:Tre} {cs ds:List Value} (h:dR V V' x y k t cs ds) (hk:k<t.length) {v:Int} (hv:inI .i64 v):
  ∃ad cs',x.a=some ad∧ay V' ((ad.add (k*5)).add 2) 1∧dR V (V'.sets ((ad.add (k*5)).add 2) [.int .i64 v]) x y k (t.set k { t.getD k default with size:=v }) cs' ds:=by
 have hk' :k<(flg y k t).length:=by rw[cJ];exact hk
 have hxB:=h.row.swap h.buf
 have hyB:Buf V' y 3 1 ds:=h.row.mono (View.aj V' x)
 obtain⟨ad,vs,ha,hc,hrep,hset⟩:=Buf.ji (α:=mo) (V:=V'.minus y) hxB (h.rep.mono (b9 V' x y)) hk'
 rw[yh hk']at hrep
 obtain⟨sq,en,rfl,r1,r2,r3,r4,r5⟩:=hrep
 obtain⟨s1,s2,s3,s4⟩:=hset 2 (.int .i64 v) ⟨{ t.getD k default with size:=v },some y⟩ (by decide) ⟨sq,en,rfl,r1,r2,hv,r4,r5⟩
 rw[zn hk]at s3
 obtain⟨l1,l2,l3⟩:=sX (View.aj V' y) s1 [.int .i64 v]
 have hyb:∀a,y.a=some a→a.block≠ad.block:=by
  intro a ha' e
  have h1:=gm (V:=V') ha'
  obtain⟨_,c,te,f,h2,_⟩:=s1
  rw[Addr.jg,Addr.jg]at h2
  rw[e]at h1
  rw[h1]at h2;cases h2
 have hms:(((V'.minus y).sets ((ad.add (k*5)).add 2) [.int .i64 v])).Le ((V'.sets ((ad.add (k*5)).add 2) [.int .i64 v]).minus y):=by
  unfold View.minus
  cases hya:y.a with
  | none=>exact View.Le.refl _
  | some a=>
    have hne:=hyb a hya
    obtain⟨h0,c,te,f,h2,_⟩:=s1
    unfold View.minus at h2
    rw[hya]at h2
    simp only [aO]at h2
    split at h2
    ·cases h2
    ·rename_i hne2
     have hne2:¬((ad.add (k*5)).add 2).block=a.block:=hne2
     have h2:V'.see ((ad.add (k*5)).add 2).block=some (.cells c te f):=h2
     unfold View.sets
     simp only
     rw[aO,if_neg hne2,h2]
     refine⟨Nat.le_refl _,fun i o hi=> ?_,rfl⟩
     rw[aO]
     by_cases hib:i=((ad.add (k*5)).add 2).block
     ·subst hib
      rw[View.ah]at hi
      rw[if_neg hne2,View.ah];exact hi
     ·rw[View.aF _ _ hib,aO]at hi
      split at hi
      ·cases hi
      ·rename_i h7;rw[if_neg h7,View.aF _ _ hib];exact hi
 have hB2:Buf (V'.sets ((ad.add (k*5)).add 2) [.int .i64 v]) x 63 5 _:=s2.mono l2
 have hYm:Buf (V'.sets ((ad.add (k*5)).add 2) [.int .i64 v]) y 3 1 ds:=by
  refine⟨hyB.len,hyB.le,hyB.lim,hyB.own.imp id ?_⟩
  rintro⟨q,all,q1,q2,q3⟩
  refine⟨q,all,q1, ?_,q3⟩
  rw[iM];exact q2
  have:=hyb _ q1
  rw[Addr.jg,Addr.jg];exact this
 have hBm:Buf ((V'.sets ((ad.add (k*5)).add 2) [.int .i64 v]).minus y) x 63 5 _:=s2.mono hms
 have hrow:=hBm.swap hYm
 have hmm:((V'.minus x).minus y).Le (((V'.sets ((ad.add (k*5)).add 2) [.int .i64 v]).minus x).minus y):=
  (b9 V' x y).trans (s4.trans ((aN hms x).trans (b9 _ y x)))
 refine⟨ad,_,ha,l1,hB2,hrow, ?_, ?_,h.le.trans hmm⟩
 ·exact s3.mono ((aN hms x).trans (b9 _ y x))
 ·rw[cq hk];exact h.ints
noncomputable def below (t:Tre) (i:Nat):List Nat:=(List.range 12).filter fun j=>iV t i j
theorem j4:∀(a b c:List UInt8),Op.bytesLess a b=true→Op.bytesLess b c=true→Op.bytesLess a c=true
 | _,[],_,h,_=>by cases ‹List UInt8› <;>simp [Op.bytesLess]at h
 | _,_::_,[],_,h=>by simp [Op.bytesLess]at h
 | [],_::_,_::_,_,_=>by simp [Op.bytesLess]
 | x::a,y::b,z::c,h,k=>by
   have ih:=j4 a b c
   simp only [Op.bytesLess,Bool.or_eq_true,decide_eq_true_eq,Bool.and_eq_true,beq_iff_eq]at h k ⊢
   rcases h with h | ⟨rfl,h⟩<;>rcases k with k | ⟨rfl,k⟩
   ·left;exact UInt8.lt_trans h k
   ·left;exact h
   ·left;exact k
   ·right;exact⟨rfl,ih h k⟩
theorem kK {a b c:ByteArray} (h:bf a b=true) (k:bf b c=true):bf a c=true:=j4 _ _ _ h k
theorem lq (a:ByteArray):bf a a=false:=lH _
theorem sZ {l:List Ent} (h:bZ l=true):∀(k i:Nat),i+k+1<l.length→bf (l.getD i default).name (l.getD (i+k+1) default).name=true:=by
 have hst:∀j,j+1<l.length→bf (l.getD j default).name (l.getD (j+1) default).name=true:=by
  intro j hj
  unfold bZ at h
  simp only [Bool.and_eq_true,List.all_eq_true,List.mem_range]at h
  have:=h.1 (j+1) hj
  unfold okE at this
  simp only [Bool.and_eq_true,Bool.or_eq_true,decide_eq_true_eq]at this
  rcases this.2 with h0 | h0
  ·omega
  ·simpa using h0
 intro k
 induction k with
 | zero=>intro i hi;exact hst i hi
 | succ k ih=>
   intro i hi
   have a:=ih i (by omega)
   have b:=hst (i+k+1) (by omega)
   exact kK a b
theorem oe {l:List Ent} (h:bZ l=true):l.Pairwise fun a b=>a.name≠b.name:=by
 rw[List.pairwise_iff_getElem]
 intro i j hi hj hij e
 have:=sZ h (j-i-1) i (by omega)
 rw[show i+(j-i-1)+1=j by omega,aB hi,aB hj,e,lq]at this
 cases this
theorem nx {l:List Ent} {s:ByteArray} (h:¬atI l s<0):∃e∈l,e.name=s∧e.node=atI l s:=by
 unfold atI at h ⊢
 cases hf:l.find? fun x=>decide (x.name=s)with
 | none=>rw[hf]at h;exact absurd (show(-1:Int)<0 by decide) h
 | some x=>
   have:=List.find?_some hf
   exact⟨x,List.mem_of_find?_eq_some hf,of_decide_eq_true this,rfl⟩
theorem Dm {l:List Ent} (h:l.Pairwise fun a b=>a.name≠b.name) {e:Ent} (he:e∈l):atI l e.name=e.node:=by
 unfold atI
 induction l with
 | nil=>cases he
 | cons x l ih=>
   rw[List.find?_cons]
   rcases List.mem_cons.1 he with rfl | he
   ·rw[decide_eq_true rfl]
   ·have hne:=(List.pairwise_cons.1 h).1 e he
    rw[decide_eq_false hne]
    exact ih (List.pairwise_cons.1 h).2 he
theorem j6.pair {t:Tre} (h:j6 t) (i:Nat):(ag t i).Pairwise fun a b=>a.name≠b.name:=by
 by_cases hi:i<12
 ·exact oe (bV (h.at hi))
 ·unfold ag
  rw[List.getD_eq_getElem?_getD,List.getElem?_eq_none (by rw[h.len];omega)]
  exact List.Pairwise.nil
theorem gG {α:Type} (l:List α):l= []∨∃m s,l=m++ [s]:=by
 rcases List.eq_nil_or_concat l with h | ⟨m,s,h⟩
 ·exact .inl h
 ·exact .inr ⟨m,s,by rw[h,List.concat_eq_append]⟩
theorem qO (t:Tre) (s:ByteArray):∀(l:List ByteArray) (i q:Nat),goF t i (l++ [s])= .ok q↔∃p,goF t i l= .ok p∧goF t p [s]= .ok q
 | [],i,q=>by
   constructor
   ·intro h;exact⟨i,rfl,h⟩
   ·rintro⟨p,hp,h⟩;cases hp;exact h
 | x::l,i,q=>by
   rw[List.cons_append,ez,ez]
   split
   ·split
    ·simp
    ·exact qO t s l _ q
   ·simp
theorem zo {t:Tre} {p q:Nat} {s:ByteArray} (h:goF t p [s]= .ok q):ak t p=2∧∃e∈ag t p,e.name=s∧e.node.toNat=q:=by
 rw[ez]at h
 split at h
 ·rename_i hk
  split at h
  ·cases h
  ·rename_i h0
   cases h
   obtain⟨e,he,h1,h2⟩:=nx h0
   exact⟨hk,e,he,h1,by rw[h2]⟩
 ·cases h
theorem s7 {t:Tre} :∀ {l:List ByteArray} {i q:Nat},goF t i l= .ok q→Reach t i q
 | [],i,q,h=>by cases h;exact .refl
 | s::l,i,q,h=>by
   rw[ez]at h
   split at h
   ·split at h
    ·cases h
    ·rename_i h0
     obtain⟨e,he,_,h2⟩:=nx h0
     rw[←h2]at h
     exact(Reach.step .refl he).trans (s7 h)
   ·cases h
theorem uD:∀(l:List ByteArray) (s:ByteArray),(Lib.join (l.map bl) [47]).length≤(Lib.join ((l++ [s]).map bl) [47]).length
 | [],s=>by simp [Lib.join_nil]
 | x::l,s=>by
   rw[qo (x::l) s (by simp),List.length_append];omega
theorem mu {s n:ByteArray} {l:List ByteArray} (h:bF s=some (l++ [n])):bF (iw l)=some l:=by
 obtain⟨h1,h2,h3⟩:=dF h
 have hl:(Lib.join ((l++ [n]).map bl) [47]).length≤59:=by
  have:=congrArg List.length h3
  rw[lX,List.length_cons]at this
  omega
 have hd:=uD l n
 have hall:l.all cG=true:=by
  rw[List.all_append,Bool.and_eq_true]at h2
  exact h2.1
 have:=oQ hall (by omega)
 unfold iw
 rw[if_pos this];exact this
theorem pL {s n:ByteArray} {l:List ByteArray} (h:bF s=some (l++ [n])):dX s=(iw l,n,0):=by
 unfold dX
 rw[h]
 simp
theorem pM {t:Tre} (hM:aY t=true) {s:ByteArray} {l:List ByteArray} (h:bF s=some l):b8 t s=goF t 0 l:=by
 unfold b8
 rw[if_pos hM,h]
structure Told (t:Tre) (s:ByteArray) (d q:Nat) (n:ByteArray):Prop where
 find:b8 t s= .ok q
 parent:aH t s= .ok (d,n)
 d12:d<12
 q12:q<12
 at_:atI (ag t d) n=q
 inside:eF t (d:Int) (q:Int)=true
structure Nt (cs:List Value) (l:List ByteArray):Prop where
 rep:∀ {W:View},aR W cs l
def bu (l:List Ent) (x:Ent):List Ent:=l.takeWhile (fun e=>bf e.name x.name)++x::l.dropWhile (fun e=>bf e.name x.name)
def aI (l:List Ent) (s:ByteArray):List Ent:=l.filter fun e=> !decide (e.name=s)
def eT (l:List Ent) (s:ByteArray):Bool:=l.any fun e=>decide (e.name=s)
def fS (l:List Ent) (x:Ent):Except Int (List Ent):=
 if(bZ l&&dG x)=true then(if eT l x.name=true then .error 9 else if 10≤l.length then .error 14 else .ok (bu l x))else .error 1
def dy (l:List Ent) (s:ByteArray):Except Int (List Ent):=if bZ l=true then(if eT l s=true then .ok (aI l s)else .error 8)else .error 1
theorem zp (l:List Ent) (s:ByteArray):decide (0≤eR (fun e:Ent=>decide (e.name=s)) l)=eT l s:=by
 rcases jw (fun e:Ent=>decide (e.name=s)) l with ⟨h1,h2⟩ | ⟨i,hi,h1,h2⟩
 ·rw[h1]
  unfold eT
  rw[decide_eq_false (by decide),eq_comm,List.any_eq_false]
  intro e he
  have:=List.find?_eq_none.1 h2 e he
  simpa using this
 ·rw[h1,decide_eq_true (by omega),eq_comm]
  unfold eT
  rw[List.any_eq_true]
  exact⟨_,List.mem_of_find?_eq_some h2,by have:=List.find?_some h2;simpa using this⟩
theorem qP {l:List Ent} (h:∀e∈l,0≤e.node) (s:ByteArray):decide (0≤atI l s)=eT l s:=by
 unfold atI
 cases hf:l.find? (fun x=>decide (x.name=s))with
 | none=>
   unfold eT
   rw[decide_eq_false (by decide),eq_comm,List.any_eq_false]
   intro e he
   have:=List.find?_eq_none.1 hf e he
   simpa using this
 | some x=>
   have hm:=List.mem_of_find?_eq_some hf
   rw[decide_eq_true (h x hm),eq_comm]
   unfold eT
   rw[List.any_eq_true]
   exact⟨x,hm,by have:=List.find?_some hf;simpa using this⟩
theorem fu {l:List Ent} {s:ByteArray} :eT l s=false↔∀e∈l,e.name≠s:=by
 unfold eT;rw[List.any_eq_false]
 exact⟨fun h e he=>by simpa using h e he,fun h e he=>by simpa using h e he⟩
theorem qQ {l:List Ent} {s:ByteArray} :eT l s=true↔∃e∈l,e.name=s:=by
 unfold eT;rw[List.any_eq_true]
 exact⟨fun⟨e,h1,h2⟩=>⟨e,h1,of_decide_eq_true h2⟩,fun⟨e,h1,h2⟩=>⟨e,h1,decide_eq_true h2⟩⟩
theorem Dn {l:List Ent} {s:ByteArray} (h:eT l s=false):aI l s=l:=by
 unfold aI;rw[List.filter_eq_self]
 intro e he
 rw[decide_eq_false (fu.1 h e he)];rfl
theorem uE (l:List Ent) (s:ByteArray):(aI l s).length≤l.length:=List.length_filter_le _ _
theorem uF (l:List Ent) (s:ByteArray):eT (aI l s) s=false:=fu.2 fun e he=>by
 unfold aI at he
 simpa using (List.mem_filter.1 he).2
theorem gR {l:List Ent} {s:ByteArray} {e:Ent} :e∈aI l s↔e∈l∧e.name≠s:=by
 unfold aI;rw[List.mem_filter];simp
theorem s9:∀ {l:List Ent} {s:ByteArray} {i:Nat} (hi:i<l.length),(l.Pairwise fun a b=>a.name≠b.name)→l[i].name=s→aI l s=l.take i++l.drop (i+1)
 | e::l,s,0,_,hp,hs=>by
   rw[List.pairwise_cons]at hp
   have h1:aI (e::l) s=aI l s:=by
    unfold aI
    rw[List.filter_cons_of_neg (by simpa using hs)]
   rw[h1,Dn (fu.2 fun x hx hxs=>hp.1 x hx (by rw[hxs];exact hs))];rfl
 | e::l,s,i+1,hi,hp,hs=>by
   rw[List.pairwise_cons]at hp
   have hi' :i<l.length:=by simpa using hi
   have hs' :l[i].name=s:=by simpa using hs
   have h1:aI (e::l) s=e::aI l s:=by
    unfold aI
    rw[List.filter_cons_of_pos]
    have:=hp.1 l[i] (List.getElem_mem hi')
    simp;rw[←hs'];exact this
   rw[h1,s9 hi' hp.2 hs'];rfl
def aJ (t:Tre) (d:Nat) (l:List Ent):Tre:=t.set d { t.getD d default with az:=l }
def aQ (k:Int):Nod:=if k=1 then⟨1,1,0,[0,0,0,0,0],[]⟩else if k=2 then⟨2,1,0,[],[]⟩else Nod.zero
def ct (held:List Bool) (i:Nat):Bool:=held.getD i false
def cj (t:Tre) (i:Nat) (held:List Bool):Tre:=
 if ak t i=1∧(0<(t.getD i default).links-1∨ct held i=true)then t.set i { t.getD i default with links:=(t.getD i default).links-1 } else t.set i Nod.zero
noncomputable def cZ (t:Tre) (p:ByteArray) (k:Int):Except Int Tre:=match aH t p with
 | .error e=> .error e
 | .ok (d,s)=>if 0≤atI (ag t d) s then .error 9 else if bE t<0 then .error 14 else if 10≤(ag t d).length then .error 14 else
   .ok ((aJ t d (bu (ag t d) ⟨s,bE t⟩)).set (bE t).toNat (aQ k))
noncomputable def dM (t:Tre) (p:ByteArray) (held:List Bool):Except Int Tre:=match aH t p with
 | .error e=> .error e
 | .ok (d,s)=>if atI (ag t d) s<0 then .error 8 else if ak t (atI (ag t d) s).toNat=2 then .error 10 else
   .ok (cj (aJ t d (aI (ag t d) s)) (atI (ag t d) s).toNat held)
noncomputable def ff (t:Tre) (p:ByteArray):Except Int Tre:=match aH t p with
 | .error e=> .error e
 | .ok (d,s)=>if atI (ag t d) s<0 then .error 8 else if ak t (atI (ag t d) s).toNat≠2 then .error 11 else if 0<(ag t (atI (ag t d) s).toNat).length then .error 12 else
   .ok ((aJ t d (aI (ag t d) s)).set (atI (ag t d) s).toNat Nod.zero)
noncomputable def iC (t:Tre) (p q:ByteArray):Except Int Tre:=match b8 t p with
 | .error e=> .error e
 | .ok i=>if ak t i=2 then .error 10 else match aH t q with
   | .error e=> .error e
   | .ok (d,s)=>if 0≤atI (ag t d) s then .error 9 else if 10≤(ag t d).length then .error 14 else
     .ok ((aJ t d (bu (ag t d) ⟨s,i⟩)).set i { t.getD i default with links:=(t.getD i default).links+1 })
def fy (a b:Nod):Int:=if a.kind=2∧b.kind≠2 then 11 else if a.kind≠2∧b.kind=2 then 10 else if 0<b.az.length then 12 else 0
def bM (t:Tre) (d:Nat) (s:ByteArray) (_i:Nat) (f:Nat) (r:ByteArray) (k:Int) (held:List Bool):Tre:=
 if 0≤k then cj (aJ (aJ t d (aI (ag t d) s)) f (aI (ag (aJ t d (aI (ag t d) s)) f) r)) k.toNat held else aJ t d (aI (ag t d) s)
noncomputable def cz (t:Tre) (p q:ByteArray) (held:List Bool):Except Int Tre:=match aH t p with
 | .error e=> .error e
 | .ok (d,s)=>if atI (ag t d) s<0 then .error 8 else match aH t q with
   | .error e=> .error e
   | .ok (f,r)=>if atI (ag t f) r=atI (ag t d) s then .ok t else if eF t (atI (ag t d) s) f=true then .error 17 else
     if 0≤atI (ag t f) r∧fy (t.getD (atI (ag t d) s).toNat default) (t.getD (atI (ag t f) r).toNat default)≠0 then .error (fy (t.getD (atI (ag t d) s).toNat default) (t.getD (atI (ag t f) r).toNat default))else
     if 10≤(ag (bM t d s (atI (ag t d) s).toNat f r (atI (ag t f) r) held) f).length then .error 14 else
     .ok (aJ (bM t d s (atI (ag t d) s).toNat f r (atI (ag t f) r) held) f (bu (ag (bM t d s (atI (ag t d) s).toNat f r (atI (ag t f) r) held) f) ⟨r,atI (ag t d) s⟩))
noncomputable def c9 (t:Tre) (i:Int):Except Int Tre:=if aY t=true then(if 0≤i∧i<12∧ak t i.toNat=1∧(t.getD i.toNat default).links≤0 then .ok (t.set i.toNat Nod.zero)else .error 18)else .error 1
theorem FP {s:ByteArray} {l:List ByteArray} (h:bF s=some l) {n:ByteArray} (hn:n∈l):cG n=true:=List.all_eq_true.1 (dF h).2.1 n hn
structure Par (t:Tre) (p:ByteArray) (ld:List ByteArray) (d:Nat) (s:ByteArray):Prop where
 may:aY t=true
 split:bF p=some (ld++ [s])
 go:goF t 0 ld= .ok d
 kind:ak t d=2
theorem Par.eq {t:Tre} {p s:ByteArray} {ld:List ByteArray} {d:Nat} (h:Par t p ld d s):aH t p= .ok (d,s):=by
 unfold aH
 rw[if_pos h.may,pL h.split]
 show(if(0:Int)=0 then _ else _)=_
 rw[if_pos rfl,pM h.may (mu h.split),h.go]
 show(if ak t d=2 then _ else _)=_
 rw[if_pos h.kind]
theorem dz {t:Tre} {p s:ByteArray} {d:Nat} (h:aH t p= .ok (d,s)):∃ld,Par t p ld d s:=by
 unfold aH at h
 split at h
 ·rename_i hM
  split at h
  ·rename_i h0
   have hsp:∃l n,bF p=some (l++ [n]):=by
    unfold dX at h0
    split at h0
    ·exact absurd h0 (by decide)
    ·rename_i l hl
     rcases gG l with rfl | ⟨m,n,rfl⟩
     ·simp at h0
     ·exact⟨m,n,hl⟩
   obtain⟨l,n,hl⟩:=hsp
   rw[pL hl]at h
   rw[pM hM (mu hl)]at h
   cases hg:goF t 0 l with
   | error e=>simp only [hg]at h;cases h
   | ok i=>
     simp only [hg]at h
     split at h
     ·rename_i hk
      cases h
      exact⟨l,hM,hl,hg,hk⟩
     ·cases h
  ·cases h
 ·cases h
theorem Par.uG {t:Tre} {p s:ByteArray} {ld:List ByteArray} {d:Nat} (h:Par t p ld d s):cG s=true:=FP h.split (by simp)
theorem Par.size {t:Tre} {p s:ByteArray} {ld:List ByteArray} {d:Nat} (h:Par t p ld d s):s.size≤8:=(k6 h.uG).2
theorem Par.d12 {t:Tre} {p s:ByteArray} {ld:List ByteArray} {d:Nat} (h:Par t p ld d s):d<12:=lp (bq h.may).1 (fq h.may) (by omega) h.go
theorem Par.bZ {t:Tre} {p s:ByteArray} {ld:List ByteArray} {d:Nat} (h:Par t p ld d s):bZ (ag t d)=true:=bV ((bP h.may).at h.d12)
theorem Par.find {t:Tre} {p s:ByteArray} {ld:List ByteArray} {d:Nat} (h:Par t p ld d s):b8 t p=goF t 0 (ld++ [s]):=pM h.may h.split
theorem Par.at {t:Tre} {p s:ByteArray} {ld:List ByteArray} {d:Nat} (h:Par t p ld d s):atI (ag t d) s= -1∨(1≤atI (ag t d) s∧atI (ag t d) s<12):=lg (fq h.may _ (jx (by rw[(bq h.may).1];exact h.d12)))
theorem kL {l:List Ent} (h:bZ l=true):∀e∈l,0≤e.node:=fun e he=>by have:=fo h he;omega
theorem FQ {V:View} {a:Int} (h0:0≤a) (h1:a≤100000):af Tryz.prog 193 ⟨[.slice none 0 0,.int .i64 a]⟩ V fun r V' =>∃x:Sl,r= .slice x.a x.n x.c∧Buf V' x 85 2 []∧V.Le (V'.minus x):=by
 refine La (a0:=⟨none,0,0⟩) ?_
 unfold CW
 refine ai (fun _ V' =>V' =V) (aa (fun h=>absurd (of_decide_eq_true h) (by omega)) (fun _=>rfl)) ?_
 rintro⟨⟩ V1 rfl
 refine⟨au (by show-9223372036854775808≤(0:Int)-0;omega) (by show(0:Int)-0≤_;omega),au (by show-9223372036854775808≤a-((0:Int)-0);omega) (by show a-((0:Int)-0)≤_;omega), ?_⟩
 refine ai (fun s V' =>Buf V' s.1 85 2 []∧V1.Le (V'.minus s.1)) (aa (fun hp=> ?_) (fun _=>⟨Buf.nil _ _ _,View.Le.refl _⟩)) ?_
 ·refine⟨Int.le_refl _,Int.le_refl _,Int.le_refl _, ?_⟩
  refine jL (cs:= []) (src:=(List.replicate a.toNat [.string (ba []),.int .i64 0]).flatten) (m:=a.toNat) (x:=⟨none,0,0⟩) rfl (Buf.nil _ _ _) ⟨?_, ?_, ?_⟩ ?_ ?_ ?_ ?_ ?_
  ·show 0≤a-((0:Int)-0);omega
  ·show a.toNat=(a-((0:Int)-0)).toNat;congr 1;omega
  ·rfl
  ·rw[List.length_flatten,List.map_replicate,List.sum_replicate_nat];simp
  ·rw[List.all_flatten,List.all_eq_true]
   intro l hl
   rw[List.eq_of_mem_replicate hl];rfl
  ·show(0+a.toNat)*24≤_;omega
  ·show 0+a.toNat≤_;omega
  ·intro s V2 hb hn hle
   have hcut:=hb.cut (k:=0) (Nat.zero_le _)
   refine⟨Int.le_refl _,Int.le_refl _,by show(0:Int)≤s.c;omega, ?_⟩
   have e:(⟨if s.c=0 then s.a else s.a.map fun q=>q.add 0,(0:Int).toNat-0,s.c-0⟩:Sl)=⟨s.a,0,s.c⟩:=by
    rw[cu];split<;>rfl
   show Buf V2 ⟨if s.c=0 then s.a else s.a.map fun q=>q.add 0,(0:Int).toNat-0,s.c-0⟩ _ _ _∧V1.Le (V2.minus ⟨if s.c=0 then s.a else s.a.map fun q=>q.add 0,(0:Int).toNat-0,s.c-0⟩)
   rw[e]
   exact⟨by simpa using hcut,hle⟩
 ·rintro⟨s,⟨⟩⟩ V2 ⟨g1,g2⟩
  exact⟨s,rfl,g1,g2⟩
theorem SlR.slN {α:Type} [Rep α] {V:View} {s:Sl} {ls:List (List α)} (h:SlR V s ls) {i:Nat} (hi:i<ls.length):∃ad y,s.a=some ad∧V.cell? (ad.add (((i:Int)).toNat*1))=some (.slice y.a y.n y.c)∧SlR V y ls[i]:=by
 have hn:=h.n
 obtain⟨ad,vs,hx,ha,hc,y,rfl,hy⟩:=h.ld (x:=(i:Int)) (by omega) (by omega)
 exact⟨ad,y,ha,bT.1 hc,hy⟩
theorem tc {α:Type} {ls:List (List α)} {i:Nat} (hi:i<ls.length):(ls.take (i+1)).flatten=(ls.take i).flatten++ls[i]:=by
 rw[List.take_add_one,List.getElem?_eq_getElem hi,List.flatten_append];simp
theorem kM {α:Type} :∀ {ls:List (List α)},∀i,(ls.take i).flatten.length≤ls.flatten.length
 | [],i=>by simp
 | l::ls,0=>by simp
 | l::ls,i+1=>by
   have:=kM (ls:=ls) i
   simp only [List.take_succ_cons,List.flatten_cons,List.length_append];omega
theorem td {V:View} {s:Sl} {ls:List (List Ent)} (h:SlR V s ls) (hl:ls.flatten.length≤1000):af Tryz.prog 186 ⟨[.slice s.a s.n s.c]⟩ V fun r V' =>∃x:Sl,r= .slice x.a x.n x.c∧SlR V' x ls.flatten∧V.Le V' :=by
 refine K5 ?_
 unfold CR
 have hn:=h.n;have hlim:=h.lim
 refine di (k:= .int .i64) (l:= .int .i64) (fun(x j:Int) V' =>V' =V∧∃i:Nat,j=i∧i≤ls.length∧x=((ls.take i).flatten.length:Nat)) (fun _ (j:Int) _=>ls.length-j.toNat) ⟨rfl,0,rfl,by omega,by simp⟩ ?_
 rintro(x:Int) (j:Int) V1 ⟨rfl,i,rfl,hi,rfl⟩
 refine aa (fun hlt=> ?_) (fun hge=> ?_)
 ·have hlt:i<ls.length:=by have:=of_decide_eq_true hlt;omega
  obtain⟨ad,y,ha,hc,hy⟩:=h.slN hlt
  have hf:=tc hlt
  have h1:=kM (ls:=ls) (i+1)
  have hyn:=hy.n
  have hf2:=congrArg List.length hf
  rw[List.length_append]at hf2
  refine⟨by omega,by omega,ad,ha,y,hc,au (by omega) (by omega),ai (fun _ V' =>V' =V1) (aa (fun hb=>absurd (of_decide_eq_true hb) (by omega)) (fun _=>rfl)) ?_⟩
  rintro⟨⟩ V2 rfl
  exact⟨au (by omega) (by omega),⟨rfl,i+1,by omega,by omega,by omega⟩,by omega⟩
 ·have hge:i=ls.length:=by have:=of_decide_eq_false hge;omega
  subst hge
  rw[List.take_length]
  refine(FQ (by omega) (by omega)).mono ?_
  rintro r V2 ⟨x,rfl,hb,hle⟩
  refine⟨x,rfl,di (k:= .sl) (l:= .int .i64) (fun(x:Sl) (j:Int) V' =>∃i:Nat,j=i∧i≤ls.length∧∃cs,Buf V' x 85 (Rep.sz Ent) cs∧aR (V'.minus x) cs (ls.take i).flatten∧V1.Le (V'.minus x)) (fun _ (j:Int) _=>ls.length-j.toNat) ⟨0,rfl,by omega,[],hb,rfl,hle⟩ ?_⟩
  rintro(x:Sl) (j:Int) V3 ⟨i,rfl,hi,cs,hb3,hr3,hle3⟩
  refine aa (fun hlt=> ?_) (fun hge=> ?_)
  ·have hlt:i<ls.length:=by have:=of_decide_eq_true hlt;omega
   obtain⟨ad,y,ha,hc,hy⟩:=(h.mono hle3).slN hlt
   have hf:=tc hlt
   have h1:=kM (ls:=ls) (i+1)
   have hf2:=congrArg List.length hf
   rw[List.length_append]at hf2
   refine⟨by omega,by omega,ad,ha,y,(View.aj _ _).cell hc, ?_⟩
   refine ew (α:=Ent) rfl hb3 hr3 hy hle3 (by omega) (by omega) fun s V4 cs4 g1 g2 g3=>⟨au (by omega) (by omega),⟨i+1,by omega,by omega,cs4,g1,by rw[hf];exact g2,g3⟩,by omega⟩
  ·have hge:i=ls.length:=by have:=of_decide_eq_false hge;omega
   subst hge
   rw[List.take_length]at hr3
   exact⟨x,rfl,hb3.slR hr3 (View.aj _ _),hle3.trans (View.aj _ _)⟩
def Dp (V:View) (r:Value) (o:Except Int (List Ent)):Prop:=∃(x:Sl) (e:Int),r= .tuple ⟨[.slice x.a x.n x.c,.int .i64 e]⟩∧(match o with
 | .ok l=>e=0∧SlR V x l
 | .error c=>e=c∧SlR (α:=Ent) V x [])
theorem wq {l:List Ent} {s:ByteArray} {i:Nat} (h1:∀e∈l.take i,bf e.name s=true) (h2:∀hi:i<l.length,bf l[i].name s=false):l.takeWhile (fun e=>bf e.name s)=l.take i∧l.dropWhile (fun e=>bf e.name s)=l.drop i:=by
 induction l generalizing i with
 | nil=>simp
 | cons e l ih=>
   cases i with
   | zero=>
     have:=h2 (by simp)
     have:bf e.name s=false:=this
     rw[List.takeWhile_cons,List.dropWhile_cons,this];exact⟨rfl,rfl⟩
   | succ i=>
     have he:bf e.name s=true:=h1 e (by simp)
     obtain⟨a,b⟩:=ih (i:=i) (fun x hx=>h1 x (by simp [hx])) (fun hi=>h2 (by simpa using hi))
     rw[List.takeWhile_cons,List.dropWhile_cons,he]
     exact⟨by simp [a],by simp [b]⟩
theorem FR {V:View} {x:Sl} {l:List Ent} {s:ByteArray} {i:Int} (h:SlR V x l) (hs:s.size≤9223372036854775807) (hi:inI .i64 i):af Tryz.prog 173 ⟨[.slice x.a x.n x.c,.string s,.int .i64 i]⟩ V fun r V' =>Dp V' r (fS l ⟨s,i⟩)∧V.Le V' :=by
 refine KU ?_
 unfold CG
 have hn:=h.n;have hc:=h.c
 intro _
 refine ai (fun q V' =>V' =V∧q.1= !(bZ l&&dG ⟨s,i⟩)) ((uk h).mono ?_) ?_
 ·rintro r V1 ⟨rfl,rfl⟩
  refine⟨_,rfl,aa (fun hb=>⟨rfl,by rw[aM hb];rfl⟩) (fun hb=>(zk (x:=⟨s,i⟩) hs).mono ?_)⟩
  rintro r V2 ⟨rfl,rfl⟩
  exact⟨_,rfl,rfl,by rw[aD hb];rfl⟩
 rintro⟨q,⟨⟩⟩ V1 ⟨rfl,hq⟩
 dsimp only [unc]at*
 unfold fS
 refine aa (fun hb=> ?_) (fun hb=> ?_)
 ·rw[hq]at hb
  rw[if_neg (by rw[aM hb];decide)]
  exact⟨⟨⟨none,0,0⟩,1,rfl,rfl,SlR.nil _ _ _⟩,View.Le.refl _⟩
 have hM:(bZ l&&dG ⟨s,i⟩)=true:=by rw[hq]at hb;exact aD hb
 have hM1:bZ l=true:=by rw[Bool.and_eq_true]at hM;exact hM.1
 have hlen:=ey hM1
 rw[if_pos hM]
 refine(qK h).mono ?_
 rintro r V2 ⟨rfl,hV2⟩
 refine⟨_,rfl, ?_⟩
 rw[zp]
 refine aa (fun hb=> ?_) (fun hb=> ?_)
 ·rw[if_pos hb]
  exact⟨⟨⟨none,0,0⟩,9,rfl,rfl,SlR.nil _ _ _⟩,hV2⟩
 rw[if_neg (by rw[hb];decide)]
 refine aa (fun hb=> ?_) (fun hb=> ?_)
 ·rw[if_pos (show 10≤l.length by have:=of_decide_eq_true hb;omega)]
  exact⟨⟨⟨none,0,0⟩,14,rfl,rfl,SlR.nil _ _ _⟩,hV2⟩
 rw[if_neg (show ¬10≤l.length by have:=of_decide_eq_false hb;omega)]
 refine bh (k:= .int .i64) (fun(y:Int) V' =>V' =V2∧0≤y∧y≤l.length∧∀e∈l.take y.toNat,bf e.name s=true) (fun(y:Int) _=>l.length-y.toNat) ⟨rfl,by omega,by omega,by simp⟩ ?_
 rintro(y:Int) V3 ⟨rfl,h0,h1,h2⟩
 refine ai (fun q V' =>V' =V3∧((q.1=true∧∃hx:y.toNat<l.length,bf l[y.toNat].name s=true)∨(q.1=false∧∀hx:y.toNat<l.length,bf l[y.toNat].name s=false))) (aa (fun hlt=> ?_) (fun hge=> ?_)) ?_
 ·have hlt:y<x.n:=by simpa using hlt
  obtain⟨ad,hx,ha,hcc,_⟩:=(h.mono hV2).ent h0 hlt
  refine⟨h0,hlt,ad,ha,l[y.toNat].name,hcc 0 _ rfl,rfl, ?_⟩
  ·cases hq:bf l[y.toNat].name s with
   | true=>exact .inl ⟨rfl,hx,hq⟩
   | false=>exact .inr ⟨rfl,fun _=>hq⟩
 ·have hge:¬y<x.n:=by simpa using hge
  exact⟨rfl,.inr ⟨rfl,fun hx=>by omega⟩⟩
 ·rintro⟨q,⟨⟩⟩ V4 ⟨rfl,hJ⟩
  dsimp only [unc]at*
  refine aa (fun hq=> ?_) (fun hq=> ?_)
  ·subst hq
   rcases hJ with ⟨_,hx,hl⟩ | ⟨hf,_⟩
   ·refine⟨au (by omega) (by omega),⟨rfl,by omega,by omega, ?_⟩,by omega⟩
    rw[show(y+1).toNat=y.toNat+1 by omega,List.take_add_one,List.getElem?_eq_getElem hx]
    intro p hp
    rcases List.mem_append.1 hp with hp | hp
    ·exact h2 p hp
    ·simp at hp;rw[hp];exact hl
   ·cases hf
  ·subst hq
   have hl:∀hx:y.toNat<l.length,bf l[y.toNat].name s=false:=by
    rcases hJ with ⟨hf,_⟩ | ⟨_,h6⟩
    ·cases hf
    ·exact h6
   obtain⟨e1,e2⟩:=wq h2 hl
   have h4:=h.mono hV2
   refine⟨trivial,Int.le_refl _,h0,by omega,h0,by omega,by omega,fun r hr=> ?_⟩
   intro r2 hr2
   have f1:=View.ax hr
   have f2:=View.ax hr2
   have p1:=View.bB (o:= .cells ⟨[.string s,.int .i64 i]⟩ 85 (0,0)) f1
   have hne:r≠r2:=by
    rintro rfl
    have:r<(V4.put r (.cells ⟨[.string s,.int .i64 i]⟩ 85 (0,0))).size:=Nat.lt_of_lt_of_le (Nat.lt_succ_self _) (Nat.le_max_right _ _)
    have hr2' :(V4.put r (.cells ⟨[.string s,.int .i64 i]⟩ 85 (0,0))).size≤r:=hr2
    omega
   have s1:=h4.sub (i:=0) (j:=y.toNat) (Nat.zero_le _) (by omega)
   have s2:SlR (V4.put r (.cells ⟨[.string s,.int .i64 i]⟩ 85 (0,0))) ⟨some ⟨r,0,none⟩,1,1⟩ [(⟨s,i⟩:Ent)]:=
    bK (l:= [(⟨s,i⟩:Ent)]) (W:=V4) (View.ah _ _ _) ⟨[.string s,.int .i64 i],[],rfl,⟨rfl,hs,hi⟩,rfl⟩ p1 (show 1≤140737488355328 by decide)
   have s3:=h4.sub (i:=y.toNat) (j:=l.length) (by omega) (Nat.le_refl _)
   rw[List.take_length]at s3
   rw[List.drop_zero]at s1
   have p2:=View.bB (o:= .cells ⟨[.slice (if x.c=0 then x.a else x.a.map fun q=>q.add 0) (y.toNat-0) (x.c-0),.slice (some ⟨r,0,none⟩) 1 1,.slice (if x.c=y.toNat then x.a else x.a.map fun q=>q.add (y.toNat*2)) ((x.n:Int).toNat-y.toNat) (x.c-y.toNat)]⟩ 61 (0,0)) f2
   have hall:SlR (V4.put r (.cells ⟨[.string s,.int .i64 i]⟩ 85 (0,0)) |>.put r2 (.cells ⟨[.slice (if x.c=0 then x.a else x.a.map fun q=>q.add 0) (y.toNat-0) (x.c-0),.slice (some ⟨r,0,none⟩) 1 1,.slice (if x.c=y.toNat then x.a else x.a.map fun q=>q.add (y.toNat*2)) ((x.n:Int).toNat-y.toNat) (x.c-y.toNat)]⟩ 61 (0,0))) ⟨some ⟨r2,0,none⟩,3,3⟩ [l.take y.toNat,[(⟨s,i⟩:Ent)],l.drop y.toNat]:=by
    refine bK (l:= [l.take y.toNat,[(⟨s,i⟩:Ent)],l.drop y.toNat]) (View.ah _ _ _) (W:=V4.put r (.cells ⟨[.string s,.int .i64 i]⟩ 85 (0,0))) ?_ p2 (show 3≤140737488355328 by decide)
    refine⟨[_],[_,_],rfl,⟨_,rfl,s1.mono p1⟩,[_],[_],rfl,⟨_,rfl,s2⟩,[_],[],rfl,⟨⟨if x.c=y.toNat then x.a else x.a.map fun q=>q.add (y.toNat*2),(x.n:Int).toNat-y.toNat,x.c-y.toNat⟩,rfl, ?_⟩,rfl⟩
    rw[show(x.n:Int).toNat=l.length by omega]
    exact s3.mono p1
   have ef:bu l ⟨s,i⟩= [l.take y.toNat,[(⟨s,i⟩:Ent)],l.drop y.toNat].flatten:=by
    unfold bu
    dsimp only
    rw[e1,e2];simp
   refine(td hall (by rw[←ef];unfold bu;dsimp only;rw[e1,e2];simp;omega)).mono ?_
   rintro r3 V5 ⟨z,rfl,hz,hV5⟩
   refine⟨z,rfl,⟨z,0,rfl,rfl,by rw[ef];exact hz⟩,(hV2.trans p1).trans (p2.trans hV5)⟩
theorem yl {V:View} {x:Sl} {l:List Ent} {s:ByteArray} (h:SlR V x l):af Tryz.prog 169 ⟨[.slice x.a x.n x.c,.string s]⟩ V fun r V' =>Dp V' r (dy l s)∧V.Le V' :=by
 refine KQ ?_
 unfold CC
 have hn:=h.n;have hc:=h.c
 refine(uk h).mono ?_
 rintro r V1 ⟨rfl,rfl⟩
 unfold dy
 refine⟨_,rfl,aa (fun hb=> ?_) (fun hb=> ?_)⟩
 ·rw[if_neg (by rw[aM hb];decide)]
  exact⟨⟨⟨none,0,0⟩,1,rfl,rfl,SlR.nil _ _ _⟩,View.Le.refl _⟩
 have hM:=aD hb
 have hlen:=ey hM
 rw[if_pos hM]
 refine(qK h).mono ?_
 rintro r V2 ⟨rfl,hV2⟩
 have hi:=zp l s
 have hidx:=jw (fun e:Ent=>decide (e.name=s)) l
 generalize hx:eR (fun e:Ent=>decide (e.name=s)) l=y at*
 refine⟨_,rfl,aa (fun hb=> ?_) (fun hb=> ?_)⟩
 ·rw[decide_eq_false (by have:=of_decide_eq_true hb;omega)]at hi
  rw[if_neg (by rw[←hi];decide)]
  exact⟨⟨⟨none,0,0⟩,8,rfl,rfl,SlR.nil _ _ _⟩,hV2⟩
 ·have hb:=of_decide_eq_false hb
  rw[decide_eq_true (by omega)]at hi
  rw[if_pos hi.symm]
  obtain⟨k,hk,rfl,hf⟩:∃i,∃h:i<l.length,y=(i:Int)∧l.find? (fun e=>decide (e.name=s))=some l[i]:=by
   rcases hidx with ⟨h1,_⟩ | h1
   ·omega
   ·exact h1
  have hname:l[k].name=s:=by simpa using List.find?_some hf
  have ecut:=s9 hk (oe hM) hname
  refine⟨trivial,Int.le_refl _,by omega,by omega,au (by omega) (by omega),by omega,by omega,by omega,fun r hr=> ?_⟩
  have f1:=View.ax hr
  have h4:=h.mono hV2
  have s1:=h4.sub (i:=0) (j:=k) (Nat.zero_le _) (by omega)
  have s3:=h4.sub (i:=k+1) (j:=l.length) (by omega) (Nat.le_refl _)
  rw[List.take_length]at s3
  rw[List.drop_zero]at s1
  have e1:((k:Int)+1).toNat=k+1:=by omega
  have e2:((k:Int)).toNat=k:=by omega
  have e3:(x.n:Int).toNat=l.length:=by omega
  rw[e1,e2,e3]
  have p2:=View.bB (o:= .cells ⟨[.slice (if x.c=0 then x.a else x.a.map fun q=>q.add 0) (k-0) (x.c-0),.slice (if x.c=k+1 then x.a else x.a.map fun q=>q.add ((k+1)*2)) (l.length-(k+1)) (x.c-(k+1))]⟩ 61 (0,0)) f1
  have hall:SlR (V2.put r (.cells ⟨[.slice (if x.c=0 then x.a else x.a.map fun q=>q.add 0) (k-0) (x.c-0),.slice (if x.c=k+1 then x.a else x.a.map fun q=>q.add ((k+1)*2)) (l.length-(k+1)) (x.c-(k+1))]⟩ 61 (0,0))) ⟨some ⟨r,0,none⟩,2,2⟩ [l.take k,l.drop (k+1)]:=by
   refine bK (l:= [l.take k,l.drop (k+1)]) (View.ah _ _ _) (W:=V2) ?_ p2 (show 2≤140737488355328 by decide)
   exact⟨[_],[_],rfl,⟨_,rfl,s1⟩,[_],[],rfl,⟨_,rfl,s3⟩,rfl⟩
  have ef:aI l s= [l.take k,l.drop (k+1)].flatten:=by rw[ecut];simp
  refine(td hall (by rw[←ef];have:=uE l s;omega)).mono ?_
  rintro r3 V5 ⟨z,rfl,hz,hV5⟩
  exact⟨z,rfl,⟨z,0,rfl,rfl,by rw[ef];exact hz⟩,hV2.trans (p2.trans hV5)⟩
theorem Am {a b:ByteArray} (h:bf a b=false) (hne:a≠b):bf b a=true:=by
 have:=iS a.data.toList b.data.toList
 unfold bf at h ⊢
 rw[h]at this
 have hb:(a.data.toList==b.data.toList)=false:=by
  rw[beq_eq_false_iff_ne]
  intro e;exact hne (ql e)
 rw[hb]at this
 cases hq:Op.bytesLess b.data.toList a.data.toList with
 | true=>rfl
 | false=>rw[hq]at this;cases this
theorem kN {l:List Ent} :bZ l=true↔(∀e∈l,dG e=true)∧(l.Pairwise fun a b=>bf a.name b.name=true)∧l.length≤10:=by
 constructor
 ·intro h
  refine⟨fun e he=> ?_, ?_,ey h⟩
  ·have:=fo h he
   unfold dG
   rw[this.2.2,decide_eq_true this.1,decide_eq_true this.2.1];rfl
  ·rw[List.pairwise_iff_getElem]
   intro i j hi hj hij
   have:=sZ h (j-i-1) i (by omega)
   rw[show i+(j-i-1)+1=j by omega,aB hi,aB hj]at this
   exact this
 ·rintro⟨h1,h2,h3⟩
  unfold bZ
  rw[decide_eq_true h3,Bool.and_true,List.all_eq_true]
  intro i hi
  have hi:=List.mem_range.1 hi
  unfold okE
  rw[aB hi,h1 _ (List.getElem_mem hi),Bool.true_and,Bool.or_eq_true,decide_eq_true_eq]
  by_cases h0:i=0
  ·exact .inl h0
  ·right
   rw[aB (by omega)]
   exact List.pairwise_iff_getElem.1 h2 (i-1) i (by omega) hi (by omega)
theorem jz {l:List Ent} (h:bZ l=true) (s:ByteArray):bZ (aI l s)=true:=by
 obtain⟨h1,h2,h3⟩:=kN.1 h
 exact kN.2 ⟨fun e he=>h1 e (gR.1 he).1,h2.sublist List.filter_sublist,Nat.le_trans (uE l s) h3⟩
theorem gS {l:List Ent} {x e:Ent} :e∈bu l x↔e=x∨e∈l:=by
 unfold bu
 rw[List.mem_append,List.mem_cons]
 have:e∈l↔e∈l.takeWhile (fun e=>bf e.name x.name)∨e∈l.dropWhile (fun e=>bf e.name x.name):=by
  rw[←List.mem_append,List.takeWhile_append_dropWhile]
 rw[this]
 constructor
 ·rintro(h | h | h)
  ·exact .inr (.inl h)
  ·exact .inl h
  ·exact .inr (.inr h)
 ·rintro(h | h | h)
  ·exact .inr (.inl h)
  ·exact .inl h
  ·exact .inr (.inr h)
theorem wu (l:List Ent) (x:Ent):(bu l x).Perm (x::l):=by
 unfold bu
 refine List.perm_middle.trans ?_
 rw[List.takeWhile_append_dropWhile]
theorem FT (l:List Ent) (x:Ent):(bu l x).length=l.length+1:=by
 rw[(wu l x).length_eq];rfl
theorem tf {α:Type} {p:α→Bool} :∀ {l:List α} {a:α},a∈l.takeWhile p→p a=true∧a∈l
 | [],_,h=>by cases h
 | x::l,a,h=>by
   rw[List.takeWhile_cons]at h
   split at h
   ·rename_i hx
    rcases List.mem_cons.1 h with rfl | h
    ·exact⟨hx,by simp⟩
    ·have:=tf h;exact⟨this.1,by simp [this.2]⟩
   ·cases h
theorem qR {l:List Ent} {x:Ent} (h:bZ l=true) (hx:dG x=true) (hn:eT l x.name=false) (hl:l.length<10):bZ (bu l x)=true:=by
 obtain⟨h1,h2,h3⟩:=kN.1 h
 refine kN.2 ⟨fun e he=> ?_, ?_,by rw[FT];omega⟩
 ·rcases gS.1 he with rfl | he
  ·exact hx
  ·exact h1 e he
 ·have hn:=fu.1 hn
  have hd:∀e∈l.dropWhile (fun e=>bf e.name x.name),bf x.name e.name=true:=by
   have key:∀m:List Ent,(m.Pairwise fun a b=>bf a.name b.name=true)→(∀e∈m,e.name≠x.name)→∀e∈m.dropWhile (fun e=>bf e.name x.name),bf x.name e.name=true:=by
    intro m
    induction m with
    | nil=>intro _ _ e he;cases he
    | cons y m ih=>
      intro hp hne e he
      rw[List.pairwise_cons]at hp
      rw[List.dropWhile_cons]at he
      split at he
      ·exact ih hp.2 (fun e he=>hne e (by simp [he])) e he
      ·rename_i hy
       have hy:bf y.name x.name=false:=by simpa using hy
       have hxy:=Am hy (hne y (by simp))
       rcases List.mem_cons.1 he with rfl | he
       ·exact hxy
       ·exact kK hxy (hp.1 e he)
   exact key l h2 hn
  unfold bu
  have hsp:(l.takeWhile (fun e=>bf e.name x.name)++l.dropWhile (fun e=>bf e.name x.name)).Pairwise fun a b=>bf a.name b.name=true:=by
   rw[List.takeWhile_append_dropWhile];exact h2
  rw[List.pairwise_append]at hsp
  rw[List.pairwise_append]
  refine⟨hsp.1, ?_,fun a ha b hb=> ?_⟩
  ·rw[List.pairwise_cons];exact⟨hd,hsp.2.1⟩
  ·rcases List.mem_cons.1 hb with rfl | hb
   ·exact(tf ha).1
   ·exact hsp.2.2 a ha b hb
theorem FU {l:List Ent} {x:Ent} (h:bZ l=true) (hx:x∈l):bu (aI l x.name) x=l:=by
 obtain⟨_,h2,_⟩:=kN.1 h
 obtain⟨a,b,rfl⟩:=List.append_of_mem hx
 have hp:=List.pairwise_append.1 h2
 have hpb:=List.pairwise_cons.1 hp.2.1
 have ha:∀e∈a,bf e.name x.name=true:=fun e he=>hp.2.2 e he x (by simp)
 have hb:∀e∈b,bf x.name e.name=true:=hpb.1
 have ne1:∀e∈a,e.name≠x.name:=fun e he q=>by have:=ha e he;rw[q,lq]at this;cases this
 have ne2:∀e∈b,e.name≠x.name:=fun e he q=>by have:=hb e he;rw[q,lq]at this;cases this
 have hc:aI (a++x::b) x.name=a++b:=by
  unfold aI
  rw[List.filter_append,List.filter_cons_of_neg (by simp)]
  congr 1
  ·rw[List.filter_eq_self];intro e he;simp [ne1 e he]
  ·rw[List.filter_eq_self];intro e he;simp [ne2 e he]
 have hnb:∀e∈b,bf e.name x.name=false:=fun e he=>by
  cases hq:bf e.name x.name with
  | false=>rfl
  | true=>have:=kK hq (hb e he);rw[lq]at this;cases this
 rw[hc]
 unfold bu
 have t1:(a++b).takeWhile (fun e=>bf e.name x.name)=a:=by
  rw[List.takeWhile_append_of_pos (fun e he=>ha e he)]
  cases b with
  | nil=>simp
  | cons y b=>rw[List.takeWhile_cons,hnb y (by simp)];simp
 have t2:(a++b).dropWhile (fun e=>bf e.name x.name)=b:=by
  rw[List.dropWhile_append_of_pos (fun e he=>ha e he)]
  cases b with
  | nil=>simp
  | cons y b=>rw[List.dropWhile_cons,hnb y (by simp)];simp
 rw[t1,t2]
theorem jU {l:List Ent} {x:Ent} (h:bZ l=true) (hx:dG x=true):fS l x=if eT l x.name=true then .error 9 else if 10≤l.length then .error 14 else .ok (bu l x):=by
 unfold fS;rw[h,hx];rfl
theorem iX {l:List Ent} {s:ByteArray} (h:bZ l=true) (hs:eT l s=true):dy l s= .ok (aI l s):=by
 unfold dy;rw[if_pos h,if_pos hs]
theorem af.iN {P:Program} {f:FuncId} {args:Array Value} {V:View} {x:Sl} {e:TypeId} {sz:Nat} {cs:List Value} {K:Value→View→Prop} (hb:Buf V x e sz cs) (h:af P f args (V.minus x) fun r U' =>K r U' ∧(V.minus x).Le U'):
  af P f args V fun r V' =>∃U',K r U' ∧(V.minus x).Le U' ∧U'.Le (V'.minus x)∧V.Le V' :=by
 rcases hb.own with ⟨ha,_⟩ | ⟨b,all,ha,hs,_⟩
 ·have e1:∀W:View,W.minus x=W:=fun W=>by unfold View.minus;rw[ha]
  rw[e1]at h
  refine h.mono fun r V' hk=>⟨V',hk.1,by rw[e1];exact hk.2,by rw[e1];exact View.Le.refl _,hk.2⟩
 ·have e1:∀W:View,W.minus x=W.bt b:=fun W=>by unfold View.minus;rw[ha]
  rw[e1]at h
  refine(af.xK (View.c6 V b) h).mono ?_
  rintro r V' ⟨U',hk,h1,h2,h3,h4⟩
  have h5:=h4 b _ (by simp [View.bt]) hs
  refine⟨U',hk,by rw[e1];exact h1, ?_,h3⟩
  rw[e1]
  refine⟨h2.size,fun i o ho=> ?_,h2.out⟩
  have hne:i≠b:=fun e=>by rw[e,h5]at ho;cases ho
  rw[aO,if_neg hne];exact h2.see i o ho
structure fQ (V0 V:View) (b:Nat) (x:Sl) (t:Tre):Prop where
 own:cD V0 V x t
 box:(V.minus x).see b=some (.cells ⟨[.slice x.a x.n x.c]⟩ 40 (0,0))
theorem fQ.mono {V0 V V' :View} {b:Nat} {x:Sl} {t:Tre} (h:fQ V0 V b x t) (hV:V.Le V'):fQ V0 V' b x t:=⟨h.own.mono hV,(aN hV x).see _ _ h.box⟩
theorem fQ.cell {V0 V:View} {b:Nat} {x:Sl} {t:Tre} (h:fQ V0 V b x t):V.cell? ((⟨b,0,none⟩:Addr).add 0)=some (.slice x.a x.n x.c):=by
 rw[Addr.add_zero];exact bX ((View.aj _ _).see _ _ h.box) rfl
theorem fQ.cell0 {V0 V:View} {b:Nat} {x:Sl} {t:Tre} (h:fQ V0 V b x t):V.cell? (⟨b,0,none⟩:Addr)=some (.slice x.a x.n x.c):=bX ((View.aj _ _).see _ _ h.box) rfl
theorem fQ.cells {V0 V:View} {b:Nat} {x:Sl} {t:Tre} (h:fQ V0 V b x t):aq V (⟨b,0,none⟩:Addr) [.slice x.a x.n x.c]:=bT.2 h.cell0
theorem cD.n {V0 V:View} {x:Sl} {t:Tre} (h:cD V0 V x t):x.n=t.length:=h.slR.n
theorem ny {V0 V:View} {x:Sl} {t:Tre} {b:Nat} (h:cD V0 V x t) (hb:V.see b=none):
  ay (V.put b (.cells ⟨[.slice none 0 0]⟩ 40 (0,0))) ⟨b,0,none⟩ 1∧fQ V0 ((V.put b (.cells ⟨[.slice none 0 0]⟩ 40 (0,0))).sets ⟨b,0,none⟩ [.slice x.a x.n x.c]) b x t:=by
 refine⟨bJ (View.ah _ _ _) (by simp), ?_⟩
 rw[bn (View.ah _ _ _)]
 have hle:V.Le ((V.put b (.cells ⟨[.slice none 0 0]⟩ 40 (0,0))).put b (.cells ⟨bD [.slice none 0 0] 0 [.slice x.a x.n x.c]⟩ 40 (0,0))):=
  ⟨Nat.le_trans (Nat.le_max_left _ _) (Nat.le_max_left _ _),fun i o ho=>by
   have hne:i≠b:=fun e=>by rw[e,hb]at ho;cases ho
   rw[View.aF _ _ hne,View.aF _ _ hne];exact ho,rfl⟩
 refine⟨h.mono hle, ?_⟩
 obtain⟨cs,hB,_,_⟩:=h
 rcases hB.own with ⟨ha,_⟩ | ⟨r,all,ha,hs,_⟩
 ·unfold View.minus;rw[ha];exact View.ah _ _ _
 ·have hne:b≠r:=fun e=>by rw[←e,hb]at hs;cases hs
  unfold View.minus;rw[ha]
  show(View.bt _ r).see b=_
  rw[aO,if_neg hne];exact View.ah _ _ _
theorem fQ.call {P:Program} {f:FuncId} {args:Array Value} {V0 V:View} {b:Nat} {x:Sl} {t:Tre} {K:Value→View→Prop} (h:fQ V0 V b x t) (hc:af P f args (V.minus x) fun r U' =>K r U' ∧(V.minus x).Le U'):
  af P f args V fun r V' =>∃U',K r U' ∧U'.Le (V'.minus x)∧V.Le V' ∧fQ V0 V' b x t:=by
 obtain⟨cs,hB,_,_⟩:=h.own
 refine(af.iN hB hc).mono ?_
 rintro r V' ⟨U',h1,_,h2,h3⟩
 exact⟨U',h1,h2,h3,h.mono h3⟩
theorem fQ.write {V0 V V' :View} {b:Nat} {x:Sl} {t u:Tre} (h:fQ V0 V b x t) (hle:(V.minus x).Le (V'.minus x)) (ho:cD V0 V' x u):fQ V0 V' b x u:=⟨ho,hle.see _ _ h.box⟩
theorem mw {V:View} {x:Sl} {ad:Addr} (ha:x.a=some ad) (k:Nat) (vs:List Value):(V.minus x).Le ((V.sets (ad.add k) vs).minus x):=by
 unfold View.minus View.sets
 rw[ha,Addr.jg]
 show(V.bt ad.block).Le (View.bt _ ad.block)
 cases V.see ad.block with
 | some o=>exact aU _ _
 | none=>exact View.Le.refl _
theorem nA {k:Int} (h:inI .i64 k) (h0:0≤k):inI .i64 (k-1):=by
 have h2:k≤9223372036854775807:=h.2
 exact au (by omega) (by omega)
theorem iO {V:View} {x:Sl} {ad:Addr} (ha:x.a=some ad) (k j:Nat) (vs:List Value):(V.minus x).Le ((V.sets ((ad.add k).add j) vs).minus x):=by
 rw[Addr.add_add];exact mw ha _ _
theorem Dq {V0 V:View} {b:Nat} {x:Sl} {t:Tre} {l:List Ent} {y:Sl} {s:ByteArray} {i:Int} (h:fQ V0 V b x t) (hl:SlR (V.minus x) y l) (hs:s.size≤9223372036854775807) (hi:inI .i64 i):
  af Tryz.prog 173 ⟨[.slice y.a y.n y.c,.string s,.int .i64 i]⟩ V fun r V' =>∃U',Dp U' r (fS l ⟨s,i⟩)∧U'.Le (V'.minus x)∧V.Le V' ∧fQ V0 V' b x t:=h.call (FR hl hs hi)
theorem og {V0 V:View} {b:Nat} {x:Sl} {t:Tre} {d:Nat} {s:ByteArray} {i j:Int} {o:Except Int (List Ent)} (h:fQ V0 V b x t) (hd:d<t.length) (hs:s.size≤9223372036854775807) (hi:inI .i64 i) (ho:fS (ag t d) ⟨s,i⟩=o) (hc:∀c,o= .error c→c≠0):
  af Tryz.prog 150 ⟨[.pointer (some ⟨b,0,none⟩),.agg ⟨[.int .i64 d,.string s,.int .i64 j]⟩,.int .i64 i]⟩ V fun r V' =>(∀l,o= .ok l→r= .int .i64 0∧fQ V0 V' b x (aJ t d l))∧(∀c,o= .error c→r= .int .i64 c)∧V0.Le V' :=by
 refine Kx ?_
 unfold Cj
 obtain⟨ad,sq,en,ha,hcs,hN,_,_,_,hset⟩:=h.own.ji hd
 have hn:=h.own.n
 refine fun _=>⟨trivial,V,View.Le.refl _,_,rfl,x,h.cell,by omega,by omega,ad,ha,en,av hcs 4 rfl,(Dq h hN.az hs hi).mono ?_⟩
 rintro r V1 ⟨U,⟨y,e,rfl,hy⟩,hU,hV1,h1⟩
 have ho' :fS (t.getD d default).az ⟨s,i⟩=o:=ho
 rw[ho']at hy
 refine⟨y,e,rfl, ?_⟩
 obtain⟨ad',sq',en',ha',hcs',_,_,_,_,hset'⟩:=h1.own.ji hd
 cases o with
 | error c=>
   obtain⟨rfl,_⟩:=hy
   have:=hc e rfl
   refine ai (fun _ V' =>V' =V1) (aa (fun h=>absurd (of_decide_eq_true h) this) (fun _=>rfl)) ?_
   rintro⟨⟩ V2 rfl
   exact⟨fun l h=>(by cases h),fun c' h=>(by cases h;rfl),h1.own.le⟩
 | ok l=>
   obtain⟨rfl,hy⟩:=hy
   obtain⟨a1,a2⟩:=hset' y l _ (hy.mono hU) rfl
   refine ai (fun _ V' =>fQ V0 V' b x (aJ t d l)) (aa (fun _=>⟨trivial,V1,View.Le.refl _,_,rfl,x,h1.cell,by omega,by omega,ad',ha',a1, ?_⟩) (fun h=>absurd h (by decide))) ?_
   ·exact h1.write (iO ha' _ _ _) a2
   ·rintro⟨⟩ V2 h2
    exact⟨fun l' h=>(by cases h;exact⟨rfl,h2⟩),fun c h=>(by cases h),h2.own.le⟩
theorem lu {V0 V:View} {b:Nat} {x:Sl} {t:Tre} {d:Nat} {s:ByteArray} {j:Int} {l:List Ent} (h:fQ V0 V b x t) (hd:d<t.length) (ho:dy (ag t d) s= .ok l):
  af Tryz.prog 145 ⟨[.pointer (some ⟨b,0,none⟩),.agg ⟨[.int .i64 d,.string s,.int .i64 j]⟩]⟩ V fun r V' =>r= .tuple ⟨[]⟩∧fQ V0 V' b x (aJ t d l):=by
 refine Ks ?_
 unfold Ce
 obtain⟨ad,sq,en,ha,hcs,hN,_,_,_,hset⟩:=h.own.ji hd
 have hn:=h.own.n
 refine fun _=>⟨trivial,V,View.Le.refl _,_,rfl,x,h.cell,_,rfl,x,h.cell,by omega,by omega,ad,ha,en,av hcs 4 rfl,(h.call (yl hN.az)).mono ?_⟩
 rintro r V1 ⟨U,⟨y,e,rfl,hy⟩,hU,hV1,h1⟩
 have ho' :dy (t.getD d default).az s= .ok l:=ho
 rw[ho']at hy
 obtain⟨rfl,hy⟩:=hy
 obtain⟨ad',sq',en',ha',hcs',_,_,_,_,hset'⟩:=h1.own.ji hd
 obtain⟨a1,a2⟩:=hset' y l _ (hy.mono hU) rfl
 exact⟨y,_,rfl,hV1,by omega,by omega,ad',ha',a1,rfl,h1.write (iO ha' _ _ _) a2⟩
theorem ie {W:View} :Rep.rep W [.int .i64 0,.int .i64 0,.int .i64 0,.slice none 0 0,.slice none 0 0] Nod.zero:=⟨⟨none,0,0⟩,⟨none,0,0⟩,rfl,zero64,zero64,zero64,SlR.nil _ _ _,SlR.nil _ _ _⟩
theorem uH {V0 V:View} {b:Nat} {x y:Sl} {t:Tre} {i:Nat} {held:List Bool} (h:fQ V0 V b x t) (hi:i<t.length) (hl:0≤(t.getD i default).links) (hy:SlR V0 y held):
  af Tryz.prog 146 ⟨[.pointer (some ⟨b,0,none⟩),.int .i64 i,.slice y.a y.n y.c]⟩ V fun r V' =>r= .tuple ⟨[]⟩∧fQ V0 V' b x (cj t i held):=by
 refine Kt ?_
 unfold Cf
 obtain⟨ad,sq,en,ha,hcs,hN,hset,_⟩:=h.own.ji hi
 have hn:=h.own.n
 have hyn:=hy.n
 refine⟨_,rfl,x,h.cell,by omega,by omega,ad,ha,_,rfl,_,av hcs 0 rfl, ?_⟩
 refine ai (fun _ V' =>∃t' :Tre,fQ V0 V' b x t' ∧t'.length=t.length∧t'.set i Nod.zero=cj t i held) (aa (fun hk=> ?_) (fun hk=> ?_)) ?_
 ·have hk:ak t i=1:=of_decide_eq_true hk
  have hlim:=hN.links
  obtain⟨a1,a2⟩:=hset ((t.getD i default).links-1) _ (nA hlim hl) rfl
  have hB1:=h.write (iO ha (i*5) 1 [.int .i64 ((t.getD i default).links-1)]) a2
  have hi1:i<(t.set i { t.getD i default with links:=(t.getD i default).links-1 }).length:=by simpa using hi
  obtain⟨ad1,sq1,en1,ha1,hcs1,hN1,_⟩:=hB1.own.ji hi1
  have e1:(t.set i { t.getD i default with links:=(t.getD i default).links-1 }).getD i default= { t.getD i default with links:=(t.getD i default).links-1 } :=by
   rw[aB hi1];simp
  rw[ha]at ha1;cases ha1
  rw[e1]at hcs1
  have hle1:=hB1.own.le
  refine⟨_,rfl,_,av hcs 1 rfl,nA hlim hl,_,rfl,a1, ?_⟩
  have hstep:t.set i { t.getD i default with links:=(t.getD i default).links-1 } |>.set i Nod.zero |> (· =t.set i Nod.zero):=List.set_set ..
  refine ai (fun q V' =>fQ V0 V' b x (t.set i { t.getD i default with links:=(t.getD i default).links-1 })∧q.1=(decide (0<(t.getD i default).links-1) ||ct held i)) ⟨_,rfl,_,av hcs1 1 rfl,aa (fun hp=>⟨hB1,by rw[hp];rfl⟩) (fun hp=>aa (fun hlt=> ?_) (fun hge=>⟨hB1, ?_⟩))⟩ ?_
  ·have hlt:=of_decide_eq_true hlt
   obtain⟨ad3,hx3,ha3,hc3⟩:=(hy.mono hle1).bool (x:=(i:Int)) (by omega) (by omega)
   refine⟨by omega,by omega,ad3,ha3,_,hc3,hB1, ?_⟩
   rw[hp,Bool.false_or]
   unfold ct
   have e:((i:Int)).toNat=i:=by omega
   rw[List.getD_eq_getElem?_getD,List.getElem?_eq_getElem (by omega)]
   simp only [e];rfl
  ·have hge:=of_decide_eq_false hge
   rw[hp,Bool.false_or]
   unfold ct
   rw[List.getD_eq_getElem?_getD,List.getElem?_eq_none (by omega)];rfl
  ·rintro⟨q,⟨⟩⟩ V2 ⟨hB2,hq⟩
   dsimp only [unc]at*
   have hcase:cj t i held=if q=true then t.set i { t.getD i default with links:=(t.getD i default).links-1 } else t.set i Nod.zero:=by
    unfold cj
    rw[hq]
    by_cases h1:0<(t.getD i default).links-1∨ct held i=true
    ·rw[if_pos ⟨hk,h1⟩,if_pos (by simpa using h1)]
    ·rw[if_neg (fun h=>h1 h.2),if_neg (by simpa using h1)]
   refine aa (fun hq1=>⟨rfl, ?_⟩) (fun hq1=>⟨_,hB2,by simp, ?_⟩)
   ·rw[hcase,if_pos hq1];exact hB2
   ·rw[hcase,if_neg (by rw[hq1];decide)];exact hstep
 ·have hk:¬ak t i=1:=of_decide_eq_false hk
  refine⟨t,h,rfl, ?_⟩
  unfold cj
  rw[if_neg (fun h=>hk h.1)]
 ·rintro⟨⟩ V1 ⟨t',h1,hlen,e⟩
  obtain⟨ad2,ha2,a1,a2⟩:=h1.own.set (i:=i) (by omega) (n:=Nod.zero) (vs:= [.int .i64 0,.int .i64 0,.int .i64 0,.slice none 0 0,.slice none 0 0]) fun _ _=>ie
  rw[ha]at ha2;cases ha2
  rw[e]at a2
  exact⟨_,rfl,a1,rfl,h1.write (mw ha (i*5) _) a2⟩
theorem bS {t:Tre} {p:ByteArray} {e:Int} (h:aH t p= .error e):e≠0:=by
 unfold aH at h
 split at h
 ·split at h
  ·split at h
   ·rename_i hf;cases h;exact gj hf
   ·split at h
    ·cases h
    ·cases h;decide
  ·rename_i h0;cases h;exact h0
 ·cases h;decide
theorem free_spec {t:Tre} (hM:aY t=true):bE t= -1∨(1≤bE t∧bE t<12∧ak t (bE t).toNat=0):=by
 have h12:=(bq hM).1
 have h0:ak t 0=2:=(bq hM).2.2.1
 unfold bE
 rw[if_pos hM]
 rcases jw (fun n:Nod=>decide (n.kind=0)) t with ⟨h1,_⟩ | ⟨i,hi,h1,h2⟩
 ·exact .inl h1
 ·have hk:=List.find?_some h2
  have hk:t[i].kind=0:=by simpa using hk
  have hk2:ak t i=0:=by unfold ak;rw[aB hi];exact hk
  right
  rw[h1]
  refine⟨?_,by omega,by rw[Int.toNat_natCast];exact hk2⟩
  by_cases hi0:i=0
  ·subst hi0;omega
  ·omega
def gH (V V' :View) (r:Value) (o:Except Int Tre):Prop:=(∃(x:Sl) (e:Int),r= .tuple ⟨[aZ x,.int .i64 e]⟩∧(match o with
 | .ok u=>e=0∧SlR V' x u
 | .error c=>e=c∧c≠0∧SlR (α:=Nod) V' x []))∧V.Le V'
theorem FV {V0 V:View} {c:Int} (hc:c≠0) (hle:V0.Le V):af Tryz.prog 76 ⟨[.int .i64 c]⟩ V fun r V' =>gH V0 V' r (.error c):=by
 refine MC ?_
 unfold Hp
 exact fun _=>⟨⟨⟨none,0,0⟩,c,rfl,rfl,hc,SlR.nil _ _ _⟩,hle⟩
theorem bI {V0 V:View} {c:Int} (hc:c≠0) (hle:V0.Le V) {o:Except Int Tre} (ho:o= .error c):af Tryz.prog 76 ⟨[.int .i64 c]⟩ V fun r V=>∃x:Sl,∃e:Int,r= .tuple ⟨[.agg ⟨[.slice x.a x.n x.c]⟩,.int .i64 e]⟩∧gH V0 V (.tuple ⟨[.agg ⟨[.slice x.a x.n x.c]⟩,.int .i64 e]⟩) o:=by
 refine(FV hc hle).mono ?_
 rintro r V' ⟨⟨x,e,rfl,h⟩,h2⟩
 exact⟨x,e,rfl,⟨x,e,rfl,by rw[ho];exact h⟩,h2⟩
noncomputable def atV (t:Tre) (p:ByteArray):Value:=match aH t p with
 | .error e=> .tuple ⟨[.agg ⟨[.int .i64 0,.string (ba []),.int .i64 0]⟩,.int .i64 e]⟩
 | .ok (d,s)=> .tuple ⟨[.agg ⟨[.int .i64 d,.string s,.int .i64 (atI (ag t d) s)]⟩,.int .i64 0]⟩
theorem zq {s:Sl} {t:Tre} {p:ByteArray} {V:View} (h:SlR V s t) (hp:p.size≤9223372036854775807) (hg:Glo V):af Tryz.prog 147 ⟨[aZ s,.string p]⟩ V fun r V' =>r=atV t p∧V.Le V' :=by
 refine Ku ?_
 unfold Cg
 have hn:=h.n
 refine fun _ _=>(uA h hp hg).mono ?_
 rintro r V1 ⟨rfl,hV1⟩
 unfold atV
 cases hq:aH t p with
 | error e=>
   exact⟨_,_,_,rfl,aa (fun _=>⟨rfl,hV1⟩) (fun h=>absurd (of_decide_eq_true (aD h)) (bS hq))⟩
 | ok q=>
   obtain⟨d,n⟩:=q
   obtain⟨ld,P⟩:=dz hq
   have hd:=P.d12
   have h12:=(bq P.may).1
   obtain⟨ad,sq,en,ha,hc,hN⟩:=(h.mono hV1).bO (i:=d) (by omega)
   refine⟨_,_,_,rfl,aa (fun h=>absurd h (by decide)) (fun _=>⟨by omega,by omega,ad,ha,en,av hc 4 rfl,(oV hN.az).mono ?_⟩)⟩
   rintro r V2 ⟨rfl,hV2⟩
   exact⟨_,rfl,rfl,hV1.trans hV2⟩
noncomputable def oh (t:Tre) (p:ByteArray):Value:=match aH t p with
 | .error e=> .tuple ⟨[.agg ⟨[.int .i64 0,.string (ba []),.int .i64 0]⟩,.int .i64 e]⟩
 | .ok (d,s)=> .tuple ⟨[.agg ⟨[.int .i64 d,.string s,.int .i64 (atI (ag t d) s)]⟩,.int .i64 (if atI (ag t d) s<0 then 8 else 0)]⟩
theorem qS {s:Sl} {t:Tre} {p:ByteArray} {V:View} (h:SlR V s t) (hp:p.size≤9223372036854775807) (hg:Glo V):af Tryz.prog 144 ⟨[aZ s,.string p]⟩ V fun r V' =>r=oh t p∧V.Le V' :=by
 refine Kr ?_
 unfold Cd
 refine fun _ _=>(zq h hp hg).mono ?_
 rintro r V1 ⟨rfl,hV1⟩
 unfold atV oh
 cases hq:aH t p with
 | error e=>
   have he:=bS hq
   refine⟨_,_,_,_,rfl,fun _=>ai (fun q V' =>q.1=e∧V' =V1) (aa (fun h=> ?_) (fun _=>⟨rfl,rfl⟩)) ?_⟩
   ·rw[decide_eq_false he]at h;cases h
   ·rintro⟨q,⟨⟩⟩ V2 ⟨e1,rfl⟩
    dsimp only [unc]at*
    exact⟨by rw[e1],hV1⟩
 | ok q=>
   obtain⟨d,n⟩:=q
   refine⟨_,_,_,_,rfl,fun _=>ai (fun q V' =>q.1=(if atI (ag t d) n<0 then 8 else 0)∧V' =V1) (aa (fun h=>⟨?_,rfl⟩) (fun h=>⟨?_,rfl⟩)) ?_⟩
   ·rw[if_pos (of_decide_eq_true h)]
   ·rw[if_neg (of_decide_eq_false h)]
   ·rintro⟨q,⟨⟩⟩ V2 ⟨e1,rfl⟩
    dsimp only [unc]at*
    exact⟨by rw[e1],hV1⟩
theorem Ds {k:Int} {V:View} :af Tryz.prog 61 ⟨[.int .i64 k]⟩ V fun r V' =>(∃s e:Sl,r=eN (aQ k) s e∧dJ V' s e (aQ k))∧V.Le V' :=by
 refine G3 ?_
 unfold Br
 refine fun _=>aa (fun h1=>⟨by decide,by decide,by decide,by decide,fun r hr=> ?_⟩) (fun h1=>aa (fun h2=> ?_) (fun h2=> ?_))
 ·have h1:k=1:=of_decide_eq_true h1
  subst h1
  have hp:=View.bB (o:= .cells ⟨(List.replicate 5 [.int .i64 0]).flatten⟩ 3 (0,0)) (View.ax hr)
  refine⟨⟨⟨some ⟨r,0,none⟩,5,5⟩,⟨none,0,0⟩,rfl,oO,oO,zero64, ?_,SlR.nil _ _ _⟩,hp⟩
  exact bK (l:= [0,0,0,0,0]) (W:=V) (View.ah _ _ _) (nc (l:= [0,0,0,0,0]) fun n hn=>by
   have:n=0:=by simpa using hn
   rw[this];exact zero64) hp (show 5≤140737488355328 by decide)
 ·have h2:k=2:=of_decide_eq_true h2
  subst h2
  exact⟨⟨⟨none,0,0⟩,⟨none,0,0⟩,rfl,zi,oO,zero64,SlR.nil _ _ _,SlR.nil _ _ _⟩,View.Le.refl _⟩
 ·have e:aQ k=Nod.zero:=by
   unfold aQ
   rw[if_neg (of_decide_eq_false h1),if_neg (of_decide_eq_false h2)]
  rw[e]
  exact⟨⟨⟨none,0,0⟩,⟨none,0,0⟩,rfl,zero64,zero64,zero64,SlR.nil _ _ _,SlR.nil _ _ _⟩,View.Le.refl _⟩
theorem aE (t:Tre) (d:Nat) (l:List Ent):(aJ t d l).length=t.length:=by unfold aJ;simp
theorem bU {t:Tre} (h:aY t=true):t.length≤1000∧∀n∈t,fJ n:=wh h
theorem nB {t:Tre} {p s:ByteArray} {ld:List ByteArray} {d:Nat} (P:Par t p ld d s) {i:Int} (h1:1≤i) (h2:i<12) (hat:¬0≤atI (ag t d) s):fS (ag t d) ⟨s,i⟩=if 10≤(ag t d).length then .error 14 else .ok (bu (ag t d) ⟨s,i⟩):=by
 rw[jU P.bZ (by unfold dG;rw[show cG (⟨s,i⟩:Ent).name=true from P.uG,decide_eq_true (show 1≤(⟨s,i⟩:Ent).node from h1),decide_eq_true (show(⟨s,i⟩:Ent).node<12 from h2)];rfl)]
 have:=qP (kL P.bZ) s
 rw[decide_eq_false hat]at this
 rw[if_neg (by show ¬eT (ag t d) s=true;rw[←this];decide)]
theorem fz {t:Tre} {p s:ByteArray} {ld:List ByteArray} {d:Nat} (P:Par t p ld d s) (hat:¬atI (ag t d) s<0):dy (ag t d) s= .ok (aI (ag t d) s):=by
 have:=qP (kL P.bZ) s
 rw[decide_eq_true (by omega)]at this
 exact iX P.bZ this.symm
theorem wv {s:Sl} {t:Tre} {p:ByteArray} {k:Int} {V:View} (h:SlR V s t) (hp:p.size≤9223372036854775807) (hg:Glo V):af Tryz.prog 143 ⟨[aZ s,.string p,.int .i64 k]⟩ V fun r V' =>gH V V' r (cZ t p k):=by
 refine Kq ?_
 unfold Cc
 have hn:=h.n
 refine fun _ _=>(zq h hp hg).mono ?_
 rintro r V1 ⟨rfl,hV1⟩
 unfold atV
 cases hq:aH t p with
 | error e=>
   exact⟨_,_,_,_,rfl,fun _=>aa (fun _=>bI (bS hq) hV1 (by unfold cZ;rw[hq])) (fun h=>absurd (of_decide_eq_true (aD h)) (bS hq))⟩
 | ok q=>
   obtain⟨d,n⟩:=q
   obtain⟨ld,P⟩:=dz hq
   have hd:=P.d12
   have h12:=(bq P.may).1
   have hE:cZ t p k=if 0≤atI (ag t d) n then .error 9 else if bE t<0 then .error 14 else if 10≤(ag t d).length then .error 14 else .ok ((aJ t d (bu (ag t d) ⟨n,bE t⟩)).set (bE t).toNat (aQ k)):=by unfold cZ;rw[hq]
   refine⟨_,_,_,_,rfl,fun _=>aa (fun h=>absurd h (by decide)) (fun _=>aa (fun h0=>bI (by decide) hV1 (by rw[hE,if_pos (of_decide_eq_true h0)])) (fun h0=> ?_))⟩
   have h0:=of_decide_eq_false h0
   rw[if_neg h0]at hE
   refine(FO (h.mono hV1)).mono ?_
   rintro r V2 ⟨rfl,hV2⟩
   have q2:=hV1.trans hV2
   refine⟨_,rfl,aa (fun hf=>bI (by decide) q2 (by rw[hE,if_pos (of_decide_eq_true hf)])) (fun hf=> ?_)⟩
   have hf:=of_decide_eq_false hf
   rw[if_neg hf]at hE
   obtain⟨f1,f2,f3⟩:1≤bE t∧bE t<12∧ak t (bE t).toNat=0:=by
    rcases free_spec P.may with h | h
    ·omega
    ·exact h
   refine(eS (h.mono q2) (bU P.may)).mono ?_
   rintro r V3 ⟨x,rfl,hO⟩
   refine⟨x,rfl,fun b hb=> ?_⟩
   obtain⟨b1,b2⟩:=ny hO hb
   have hlen:=P.size
   refine⟨b1,(og b2 (d:=d) (by omega) (by omega) (au (by omega) (by omega)) (nB P f1 f2 h0) (fun c hc=> ?_)).mono ?_⟩
   ·split at hc<;>cases hc;decide
   rintro r V4 ⟨h4,h4e,hle4⟩
   by_cases hfull:10≤(ag t d).length
   ·rw[if_pos hfull]at hE
    obtain rfl:=h4e 14 (if_pos hfull)
    exact⟨_,rfl,aa (fun _=>bI (by decide) (q2.trans hle4) hE) (fun h=>absurd h (by decide))⟩
   ·rw[if_neg hfull]at hE
    obtain⟨rfl,hb4⟩:=h4 _ (if_neg hfull)
    refine⟨_,rfl,aa (fun h=>absurd h (by decide)) (fun _=>⟨trivial,V4,View.Le.refl _,x,hb4.cell0,(hb4.call Ds).mono ?_⟩)⟩
    rintro r V5 ⟨U,⟨sq,en,rfl,hN⟩,hU,hV5,h5⟩
    have hn5:=h5.own.n
    rw[aE]at hn5
    obtain⟨ad,ha,c1,c2⟩:=h5.own.set (i:=(bE t).toNat) (by rw[aE];omega) (n:=aQ k) (vs:= [.int .i64 (aQ k).kind,.int .i64 (aQ k).links,.int .i64 (aQ k).size,.slice sq.a sq.n sq.c,.slice en.a en.n en.c]) fun _ _=>(hN.mono hU).rep
    have h6:=h5.write (mw ha ((bE t).toNat*5) _) c2
    rw[hE]
    exact⟨_,_,_,sq,en,rfl,hV5,by omega,by omega,ad,ha,c1,x,h6.cells,⟨x,0,rfl,rfl,h6.own.slR⟩,q2.trans h6.own.le⟩
theorem An {s:Sl} {t:Tre} {p:ByteArray} {V:View} (h:SlR V s t) (hp:p.size≤9223372036854775807) (hg:Glo V):af Tryz.prog 96 ⟨[aZ s,.string p]⟩ V fun r V' =>gH V V' r (cZ t p 1):=by
 refine MW ?_
 unfold HI
 refine fun _ _=>(wv h hp hg).mono ?_
 rintro r V1 ⟨⟨x,e,rfl,h1⟩,h2⟩
 exact⟨x,e,rfl,⟨x,e,rfl,h1⟩,h2⟩
theorem Dt {s:Sl} {t:Tre} {p:ByteArray} {V:View} (h:SlR V s t) (hp:p.size≤9223372036854775807) (hg:Glo V):af Tryz.prog 97 ⟨[aZ s,.string p]⟩ V fun r V' =>gH V V' r (cZ t p 2):=by
 refine MX ?_
 unfold HJ
 refine fun _ _=>(wv h hp hg).mono ?_
 rintro r V1 ⟨⟨x,e,rfl,h1⟩,h2⟩
 exact⟨x,e,rfl,⟨x,e,rfl,h1⟩,h2⟩
theorem cK {t:Tre} {d i:Nat} {l:List Ent} (h:i≠d):(aJ t d l).getD i default=t.getD i default:=by
 unfold aJ
 rw[List.getD_eq_getElem?_getD,List.getElem?_set_ne (fun e=>h e.symm), ←List.getD_eq_getElem?_getD]
theorem jA {t:Tre} {d:Nat} {l:List Ent} (h:d<t.length):(aJ t d l).getD d default= { t.getD d default with az:=l } :=by
 rw[aB (by rw[aE];exact h)]
 unfold aJ
 rw[List.getElem_set_self]
theorem eY {t:Tre} (hM:aY t=true) {d:Nat} {s:ByteArray} (h:¬atI (ag t d) s<0):ak t d=2∧1≤atI (ag t d) s∧atI (ag t d) s<12∧ak t (atI (ag t d) s).toNat≠0∧∃e∈ag t d,e.name=s∧e.node=atI (ag t d) s:=by
 obtain⟨e,he,h1,h2⟩:=nx h
 have:=(bP hM).ent he
 rw[←h2]
 exact⟨this.2.1,this.2.2.1,this.2.2.2.1,this.2.2.2.2.2,e,he,h1,rfl⟩
theorem eA {t:Tre} (hM:aY t=true) {i:Nat} (hi:i<12):0≤(t.getD i default).links∧(t.getD i default).links≤120:=by
 have h:=(bP hM).at hi
 unfold bA at h
 split at h
 ·simp only [Bool.and_eq_true,decide_eq_true_eq]at h;omega
 ·split at h
  ·unfold fG within at h
   simp only [Bool.and_eq_true,decide_eq_true_eq]at h
   exact h.1.1.1.1
  ·split at h
   ·simp only [Bool.and_eq_true,decide_eq_true_eq]at h;omega
   ·cases h
theorem eG {t:Tre} (hM:aY t=true) {d:Nat} {s:ByteArray} (h:¬atI (ag t d) s<0):(atI (ag t d) s).toNat≠d:=by
 obtain⟨_,h1,_,_,e,he,_,h2⟩:=eY hM h
 intro hd
 refine(bP hM).uB he ?_
 rw[h2,hd];exact .refl
theorem mz {t:Tre} {p:ByteArray} {e:Int} (h:aH t p= .error e):oh t p= .tuple ⟨[.agg ⟨[.int .i64 0,.string (ba []),.int .i64 0]⟩,.int .i64 e]⟩:=by
 unfold oh;rw[h]
theorem om {t:Tre} {p s:ByteArray} {d:Nat} (h:aH t p= .ok (d,s)):oh t p= .tuple ⟨[.agg ⟨[.int .i64 d,.string s,.int .i64 (atI (ag t d) s)]⟩,.int .i64 (if atI (ag t d) s<0 then 8 else 0)]⟩:=by
 unfold oh;rw[h]
theorem zu {t:Tre} {p:ByteArray} {e:Int} (h:aH t p= .error e):atV t p= .tuple ⟨[.agg ⟨[.int .i64 0,.string (ba []),.int .i64 0]⟩,.int .i64 e]⟩:=by
 unfold atV;rw[h]
theorem Du {t:Tre} {p s:ByteArray} {d:Nat} (h:aH t p= .ok (d,s)):atV t p= .tuple ⟨[.agg ⟨[.int .i64 d,.string s,.int .i64 (atI (ag t d) s)]⟩,.int .i64 0]⟩:=by
 unfold atV;rw[h]
theorem pN {a:Int} (h:1≤a):Value.int .i64 a=Value.int .i64 ((a.toNat:Nat):Int):=by congr 1;omega
theorem Ao {s y:Sl} {t:Tre} {p:ByteArray} {held:List Bool} {V:View} (h:SlR V s t) (hy:SlR V y held) (hp:p.size≤9223372036854775807) (hg:Glo V):af Tryz.prog 98 ⟨[aZ s,.string p,.slice y.a y.n y.c]⟩ V fun r V' =>gH V V' r (dM t p held):=by
 refine MY ?_
 unfold HK
 have hn:=h.n
 refine fun _ _=>(qS h hp hg).mono ?_
 rintro r V1 ⟨rfl,hV1⟩
 cases hq:aH t p with
 | error e=>
   rw[mz hq]
   exact⟨_,_,_,_,rfl,fun _=>aa (fun _=>bI (bS hq) hV1 (by unfold dM;rw[hq])) (fun h=>absurd (of_decide_eq_true (aD h)) (bS hq))⟩
 | ok q=>
   obtain⟨d,n⟩:=q
   obtain⟨ld,P⟩:=dz hq
   have hd:=P.d12
   have h12:=(bq P.may).1
   rw[om hq]
   have hE:dM t p held=if atI (ag t d) n<0 then .error 8 else if ak t (atI (ag t d) n).toNat=2 then .error 10 else .ok (cj (aJ t d (aI (ag t d) n)) (atI (ag t d) n).toNat held):=by unfold dM;rw[hq]
   by_cases h0:atI (ag t d) n<0
   ·rw[if_pos h0]at hE ⊢
    exact⟨_,_,_,_,rfl,fun _=>aa (fun _=>bI (by decide) hV1 hE) (fun h=>absurd h (by decide))⟩
   rw[if_neg h0]at hE ⊢
   obtain⟨k0,k1,k2,k3,_⟩:=eY P.may h0
   have hne:=eG P.may h0
   obtain⟨ad,sq,en,ha,hc,hN⟩:=(h.mono hV1).bO (i:=(atI (ag t d) n).toNat) (by omega)
   refine⟨_,_,_,_,rfl,fun _=>aa (fun h=>absurd h (by decide)) (fun _=>⟨by omega,by omega,ad,ha,_,av hc 0 rfl,aa (fun hk=>bI (by decide) hV1 (by rw[hE,if_pos (of_decide_eq_true hk)])) (fun hk=> ?_)⟩)⟩
   rw[if_neg (show ¬ak t (atI (ag t d) n).toNat=2 from of_decide_eq_false hk)]at hE
   refine(eS (h.mono hV1) (bU P.may)).mono ?_
   rintro r V3 ⟨x,rfl,hO⟩
   refine⟨x,rfl,fun b hb=> ?_⟩
   obtain⟨b1,b2⟩:=ny hO hb
   refine⟨b1,(lu b2 (d:=d) (by omega) (fz P h0)).mono ?_⟩
   rintro r V4 ⟨rfl,h4⟩
   have hl:=eA P.may (i:=(atI (ag t d) n).toNat) (by omega)
   have e1:=cK (t:=t) (l:=aI (ag t d) n) hne
   rw[pN k1]
   refine⟨rfl,(uH h4 (i:=(atI (ag t d) n).toNat) (by rw[aE];omega) (by rw[e1];exact hl.1) (hy.mono hV1)).mono ?_⟩
   rintro r V5 ⟨rfl,h5⟩
   rw[hE]
   exact⟨rfl,x,h5.cells,⟨x,0,rfl,rfl,h5.own.slR⟩,hV1.trans h5.own.le⟩
theorem Dv {s:Sl} {t:Tre} {p:ByteArray} {V:View} (h:SlR V s t) (hp:p.size≤9223372036854775807) (hg:Glo V):af Tryz.prog 99 ⟨[aZ s,.string p]⟩ V fun r V' =>gH V V' r (ff t p):=by
 refine MZ ?_
 unfold HL
 have hn:=h.n
 refine fun _ _=>(qS h hp hg).mono ?_
 rintro r V1 ⟨rfl,hV1⟩
 cases hq:aH t p with
 | error e=>
   rw[mz hq]
   exact⟨_,_,_,_,rfl,fun _=>aa (fun _=>bI (bS hq) hV1 (by unfold ff;rw[hq])) (fun h=>absurd (of_decide_eq_true (aD h)) (bS hq))⟩
 | ok q=>
   obtain⟨d,n⟩:=q
   obtain⟨ld,P⟩:=dz hq
   have hd:=P.d12
   have h12:=(bq P.may).1
   rw[om hq]
   have hE:ff t p=if atI (ag t d) n<0 then .error 8 else if ak t (atI (ag t d) n).toNat≠2 then .error 11 else if 0<(ag t (atI (ag t d) n).toNat).length then .error 12 else .ok ((aJ t d (aI (ag t d) n)).set (atI (ag t d) n).toNat Nod.zero):=by unfold ff;rw[hq]
   by_cases h0:atI (ag t d) n<0
   ·rw[if_pos h0]at hE ⊢
    exact⟨_,_,_,_,rfl,fun _=>aa (fun _=>bI (by decide) hV1 hE) (fun h=>absurd h (by decide))⟩
   rw[if_neg h0]at hE ⊢
   obtain⟨k0,k1,k2,k3,_⟩:=eY P.may h0
   have hne:=eG P.may h0
   obtain⟨ad,sq,en,ha,hc,hN⟩:=(h.mono hV1).bO (i:=(atI (ag t d) n).toNat) (by omega)
   have hen:en.n=(ag t (atI (ag t d) n).toNat).length:=hN.az.n
   refine⟨_,_,_,_,rfl,fun _=>aa (fun h=>absurd h (by decide)) (fun _=>⟨by omega,by omega,ad,ha,_,av hc 0 rfl,aa (fun hk=>bI (by decide) hV1 (by rw[hE,if_pos (show ak t (atI (ag t d) n).toNat≠2 from of_decide_eq_false (aM hk))])) (fun hk=>⟨by omega,by omega,ad,ha,en,av hc 4 rfl,aa (fun hl=>bI (by decide) hV1 ?_) (fun hl=> ?_)⟩)⟩)⟩
   ·have hk:ak t (atI (ag t d) n).toNat=2:=of_decide_eq_true (aD hk)
    have hl:=of_decide_eq_true hl
    rw[hE,if_neg (fun h=>h hk),if_pos (show 0<(ag t (atI (ag t d) n).toNat).length by omega)]
   have hk:ak t (atI (ag t d) n).toNat=2:=of_decide_eq_true (aD hk)
   have hl:=of_decide_eq_false hl
   rw[if_neg (fun h=>h hk),if_neg (show ¬0<(ag t (atI (ag t d) n).toNat).length by omega)]at hE
   refine(eS (h.mono hV1) (bU P.may)).mono ?_
   rintro r V3 ⟨x,rfl,hO⟩
   refine⟨x,rfl,fun b hb=> ?_⟩
   obtain⟨b1,b2⟩:=ny hO hb
   refine⟨b1,(lu b2 (d:=d) (by omega) (fz P h0)).mono ?_⟩
   rintro r V4 ⟨rfl,h4⟩
   have hl:=eA P.may (i:=(atI (ag t d) n).toNat) (by omega)
   have e1:=cK (t:=t) (l:=aI (ag t d) n) hne
   rw[pN k1]
   refine⟨rfl,(uH (y:=⟨none,0,0⟩) (held:= []) h4 (i:=(atI (ag t d) n).toNat) (by rw[aE];omega) (by rw[e1];exact hl.1) (SlR.nil _ _ _)).mono ?_⟩
   rintro r V5 ⟨rfl,h5⟩
   have e2:cj (aJ t d (aI (ag t d) n)) (atI (ag t d) n).toNat []=(aJ t d (aI (ag t d) n)).set (atI (ag t d) n).toNat Nod.zero:=by
    unfold cj
    rw[if_neg]
    rintro⟨h,_⟩
    unfold ak at h hk
    rw[e1]at h;omega
   rw[e2]at h5
   rw[hE]
   exact⟨rfl,x,h5.cells,⟨x,0,rfl,rfl,h5.own.slR⟩,hV1.trans h5.own.le⟩
theorem FW {s:Sl} {t:Tre} {p q:ByteArray} {V:View} (h:SlR V s t) (hp:p.size≤9223372036854775807) (hq' :q.size≤9223372036854775807) (hg:Glo V):af Tryz.prog 101 ⟨[aZ s,.string p,.string q]⟩ V fun r V' =>gH V V' r (iC t p q):=by
 refine JM ?_
 unfold Bv
 have hn:=h.n
 refine fun _ _=>(mm h hp hg).mono ?_
 rintro r V1 ⟨rfl,hV1⟩
 cases hf:b8 t p with
 | error e=>
   exact⟨_,_,rfl,aa (fun _=>bI (gj hf) hV1 (by unfold iC;rw[hf])) (fun h=>absurd (of_decide_eq_true (aD h)) (gj hf))⟩
 | ok i=>
   have hi:=gE hf
   have hM:aY t=true:=by unfold b8 at hf;split at hf;assumption;cases hf
   have h12:=(bq hM).1
   have hE:iC t p q=if ak t i=2 then .error 10 else match aH t q with
    | .error e=> .error e
    | .ok (d,s)=>if 0≤atI (ag t d) s then .error 9 else if 10≤(ag t d).length then .error 14 else
      .ok ((aJ t d (bu (ag t d) ⟨s,i⟩)).set i { t.getD i default with links:=(t.getD i default).links+1 }):=by unfold iC;rw[hf]<;>rfl
   obtain⟨ad,sq,en,ha,hc,hN⟩:=(h.mono hV1).bO (i:=i) (by omega)
   refine⟨_,_,rfl,aa (fun h=>absurd h (by decide)) (fun _=>⟨by omega,by omega,ad,ha,_,av hc 0 rfl,aa (fun hk=>bI (by decide) hV1 (by rw[hE,if_pos (show ak t i=2 from of_decide_eq_true hk)])) (fun hk=> ?_)⟩)⟩
   have hk:¬ak t i=2:=of_decide_eq_false hk
   rw[if_neg hk]at hE
   refine(zq (h.mono hV1) hq' (hg.mono hV1)).mono ?_
   rintro r V2 ⟨rfl,hV2⟩
   have q2:=hV1.trans hV2
   cases hr:aH t q with
   | error e=>
     rw[zu hr]
     exact⟨_,_,_,_,rfl,fun _=>aa (fun _=>bI (bS hr) q2 (by rw[hE,hr])) (fun h=>absurd (of_decide_eq_true (aD h)) (bS hr))⟩
   | ok z=>
     obtain⟨d,n⟩:=z
     obtain⟨ld,P⟩:=dz hr
     have hd:=P.d12
     rw[hr]at hE
     dsimp only at hE
     rw[Du hr]
     have hid:i≠d:=fun e=>hk (by rw[e];exact P.kind)
     have hi0:i≠0:=fun e=>hk (by rw[e];exact(bP hM).top)
     refine⟨_,_,_,_,rfl,fun _=>aa (fun h=>absurd h (by decide)) (fun _=>aa (fun h0=>bI (by decide) q2 (by rw[hE,if_pos (of_decide_eq_true h0)])) (fun h0=> ?_))⟩
     have h0:=of_decide_eq_false h0
     rw[if_neg h0]at hE
     refine(eS (h.mono q2) (bU P.may)).mono ?_
     rintro r V3 ⟨x,rfl,hO⟩
     refine⟨x,rfl,fun b hb=> ?_⟩
     obtain⟨b1,b2⟩:=ny hO hb
     have hlen:=P.size
     refine⟨b1,(og b2 (d:=d) (i:=(i:Int)) (by omega) (by omega) (au (by omega) (by omega)) (nB P (by omega) (by omega) h0) (fun c hc=> ?_)).mono ?_⟩
     ·split at hc<;>cases hc;decide
     rintro r V4 ⟨h4,h4e,hle4⟩
     by_cases hfull:10≤(ag t d).length
     ·rw[if_pos hfull]at hE
      obtain rfl:=h4e 14 (if_pos hfull)
      exact⟨_,rfl,aa (fun _=>bI (by decide) (q2.trans hle4) hE) (fun h=>absurd h (by decide))⟩
     ·rw[if_neg hfull]at hE
      obtain⟨rfl,hb4⟩:=h4 _ (if_neg hfull)
      have hl:=eA hM hi
      obtain⟨ad5,sq5,en5,ha5,hc5,hN5,hset,_⟩:=hb4.own.ji (i:=i) (by rw[aE];omega)
      have hn5:=hb4.own.n
      rw[aE]at hn5
      have e1:=cK (t:=t) (l:=bu (ag t d) ⟨n,(i:Int)⟩) hid
      rw[e1]at hc5 hset
      obtain⟨c1,c2⟩:=hset ((t.getD i default).links+1) _ (au (by omega) (by omega)) rfl
      have h6:=hb4.write (iO ha5 (i*5) 1 _) c2
      rw[hE]
      exact⟨_,rfl,aa (fun h=>absurd h (by decide)) (fun _=>⟨x,hb4.cell0,by omega,by omega,ad5,ha5,_,av hc5 1 rfl,au (by omega) (by omega),by omega,by omega,ad5,ha5,c1,x,h6.cells,⟨x,0,rfl,rfl,h6.own.slR⟩,q2.trans h6.own.le⟩)⟩
theorem zw {s:Sl} {t:Tre} {i:Int} {V:View} (h:SlR V s t):af Tryz.prog 47 ⟨[aZ s,.int .i64 i]⟩ V fun r V' =>gH V V' r (c9 t i):=by
 refine Mc ?_
 unfold GQ
 have hn:=h.n
 refine fun _ _=>(iI h).mono ?_
 rintro r V1 ⟨rfl,hV1⟩
 refine⟨_,rfl,aa (fun hb=>bI (by decide) hV1 (by unfold c9;rw[if_neg (by rw[aM hb];decide)])) (fun hb=> ?_)⟩
 have hM:=aD hb
 have h12:=(bq hM).1
 have hE:c9 t i=if 0≤i∧i<12∧ak t i.toNat=1∧(t.getD i.toNat default).links≤0 then .ok (t.set i.toNat Nod.zero)else .error 18:=by unfold c9;rw[if_pos hM]
 refine ai (fun q V' =>V' =V1∧q.1= !decide (0≤i∧i<12∧ak t i.toNat=1∧(t.getD i.toNat default).links≤0)) (aa (fun hr=>⟨rfl, ?_⟩) (fun hr=> ?_)) ?_
 ·rw[decide_eq_false]; ·rfl
  rintro⟨h0,h1,_⟩
  rw[decide_eq_false (by omega),decide_eq_false (by omega)]at hr;cases hr
 ·have h0:0≤i:=by
   rcases Int.lt_or_le i 0 with h | h
   ·rw[decide_eq_true h]at hr;cases hr
   ·exact h
  rw[decide_eq_false (by omega)]at hr
  have h1:i<12:=by have:=of_decide_eq_false hr;omega
  obtain⟨ad,sq,en,ha,hc,hN⟩:=(h.mono hV1).bO (i:=i.toNat) (by omega)
  refine⟨h0,by omega,ad,ha,_,av hc 0 rfl,aa (fun hk=>⟨rfl, ?_⟩) (fun hk=>⟨h0,by omega,ad,ha,_,av hc 1 rfl,rfl, ?_⟩)⟩
  ·have hk:¬ak t i.toNat=1:=of_decide_eq_false (aM hk)
   rw[decide_eq_false (fun h=>hk h.2.2.1)];rfl
  ·have hk:ak t i.toNat=1:=of_decide_eq_true (aD hk)
   by_cases hl:0<(t.getD i.toNat default).links
   ·rw[decide_eq_false (show ¬(0≤i∧i<12∧ak t i.toNat=1∧(t.getD i.toNat default).links≤0)from fun h=>by have:=h.2.2.2;omega)];exact decide_eq_true hl
   ·rw[decide_eq_true (show 0≤i∧i<12∧ak t i.toNat=1∧(t.getD i.toNat default).links≤0 from⟨h0,h1,hk,by omega⟩)];exact decide_eq_false hl
 ·rintro⟨q,⟨⟩⟩ V2 ⟨rfl,hq⟩
  dsimp only [unc]at*
  refine aa (fun hb=>bI (by decide) hV1 ?_) (fun hb=> ?_)
  ·rw[hq]at hb
   rw[hE,if_neg (of_decide_eq_false (aM hb))]
  ·rw[hq]at hb
   have hc:=of_decide_eq_true (aD hb)
   rw[if_pos hc]at hE
   refine(eS (h.mono hV1) (bU hM)).mono ?_
   rintro r V3 ⟨x,rfl,hO⟩
   have hxn:=hO.n
   obtain⟨ad2,ha2,a1,a2⟩:=hO.set (i:=i.toNat) (by omega) (n:=Nod.zero) (vs:= [.int .i64 0,.int .i64 0,.int .i64 0,.slice none 0 0,.slice none 0 0]) fun _ _=>ie
   rw[hE]
   exact⟨x,rfl,fun _=>⟨by omega,by omega,ad2,ha2,a1,⟨x,0,rfl,rfl,a2.slR⟩,hV1.trans a2.le⟩⟩
theorem cP {t:Tre} {d j:Nat} {l:List Ent} (h:d<t.length):ag (aJ t d l) j=if j=d then l else ag t j:=by
 unfold ag
 by_cases e:j=d
 ·subst e;rw[if_pos rfl,jA h]
 ·rw[if_neg e,cK e]
theorem Dw {t:Tre} {i j:Nat} {held:List Bool} (h:j≠i):(cj t i held).getD j default=t.getD j default:=by
 unfold cj
 split
 ·rw[List.getD_eq_getElem?_getD,List.getElem?_set_ne (fun e=>h e.symm), ←List.getD_eq_getElem?_getD]
 ·rw[List.getD_eq_getElem?_getD,List.getElem?_set_ne (fun e=>h e.symm), ←List.getD_eq_getElem?_getD]
theorem oo (t:Tre) (i:Nat) (held:List Bool):(cj t i held).length=t.length:=by
 unfold cj;split<;>simp
theorem FX {l:List Ent} {s r:ByteArray} (h:s≠r):eT (aI l s) r=eT l r:=by
 rw[Bool.eq_iff_iff,qQ,qQ]
 constructor
 ·rintro⟨e,he,h1⟩;exact⟨e,(gR.1 he).1,h1⟩
 ·rintro⟨e,he,h1⟩;exact⟨e,gR.2 ⟨he,fun h2=>h (h2.symm.trans h1)⟩,h1⟩
theorem jB {t:Tre} {p s:ByteArray} {ld:List ByteArray} {d:Nat} (P:Par t p ld d s):eT (ag t d) s=decide (0≤atI (ag t d) s):=(qP (kL P.bZ) s).symm
def E1 (t:Tre) (d:Nat) (n:ByteArray) (f:Nat):List Ent:=if f=d then aI (ag t d) n else ag t f
theorem oq {t:Tre} {p q n r:ByteArray} {ld lf:List ByteArray} {d f:Nat} (P:Par t p ld d n) (Q:Par t q lf f r):bZ (E1 t d n f)=true:=by
 unfold E1;split
 ·exact jz P.bZ n
 ·exact Q.bZ
theorem ym {t:Tre} {p q n r:ByteArray} {ld lf:List ByteArray} {d f:Nat} (_P:Par t p ld d n) (Q:Par t q lf f r) (hne:atI (ag t f) r≠atI (ag t d) n):eT (E1 t d n f) r=decide (0≤atI (ag t f) r):=by
 unfold E1;split
 ·rename_i e;subst e
  rw[FX (fun h=>hne (by rw[h])),jB Q]
 ·exact jB Q
theorem th {t:Tre} {p q n r:ByteArray} {ld lf:List ByteArray} {d f:Nat} (P:Par t p ld d n) (Q:Par t q lf f r) {held:List Bool} (i:Nat):
  ag (bM t d n i f r (atI (ag t f) r) held) f=if 0≤atI (ag t f) r then aI (E1 t d n f) r else E1 t d n f:=by
 have h12:=(bq P.may).1
 have hd:=P.d12;have hf:=Q.d12
 have e1:ag (aJ t d (aI (ag t d) n)) f=E1 t d n f:=by rw[cP (by omega)];rfl
 unfold bM
 by_cases h:0≤atI (ag t f) r
 ·rw[if_pos h,if_pos h]
  have hne:=eG Q.may (show ¬atI (ag t f) r<0 by omega)
  have:ag (cj (aJ (aJ t d (aI (ag t d) n)) f (aI (ag (aJ t d (aI (ag t d) n)) f) r)) (atI (ag t f) r).toNat held) f=ag (aJ (aJ t d (aI (ag t d) n)) f (aI (ag (aJ t d (aI (ag t d) n)) f) r)) f:=by
   unfold ag;rw[Dw (fun e=>hne e.symm)]
  rw[this,cP (by rw[aE];omega),if_pos rfl,e1]
 ·rw[if_neg h,if_neg h];exact e1
theorem nC (t:Tre) (d:Nat) (n:ByteArray) (i f:Nat) (r:ByteArray) (k:Int) (held:List Bool):(bM t d n i f r k held).length=t.length:=by
 unfold bM;split
 ·rw[oo,aE,aE]
 ·rw[aE]
theorem wz {a b:Nod} {s e s' e' :Sl} {V:View} (k:dJ V s' e' b):af Tryz.prog 149 ⟨[eN a s e,eN b s' e']⟩ V fun r V' =>r= .int .i64 (fy a b)∧V' =V:=by
 refine Kw ?_
 unfold Ci
 have hn:=k.az.n
 refine fun _ _=>aa (fun h1=>⟨?_,rfl⟩) (fun h1=>aa (fun h2=>⟨?_,rfl⟩) (fun h2=>aa (fun h3=>⟨?_,rfl⟩) (fun h3=>⟨?_,rfl⟩)))
 all_goals unfold fy
 ·rw[if_pos]
  cases h:decide (a.kind=2)with
  | false=>rw[h]at h1;cases h1
  | true=>rw[h]at h1;exact⟨of_decide_eq_true h,of_decide_eq_false (aM h1)⟩
 all_goals have h1' :¬(a.kind=2∧b.kind≠2):=(by
  rintro⟨h,h'⟩
  rw[decide_eq_true h,decide_eq_false h']at h1;cases h1)
 ·rw[if_neg h1',if_pos]
  cases h:decide (a.kind=2)with
  | true=>rw[h]at h2;cases h2
  | false=>rw[h]at h2;exact⟨of_decide_eq_false h,of_decide_eq_true h2⟩
 all_goals have h2' :¬(a.kind≠2∧b.kind=2):=(by
  rintro⟨h,h'⟩
  rw[decide_eq_false h,decide_eq_true h']at h2;cases h2)
 ·rw[if_neg h1',if_neg h2',if_pos (by have:=of_decide_eq_true h3;omega)]
 ·rw[if_neg h1',if_neg h2',if_neg (by have:=of_decide_eq_false h3;omega)]
theorem Ap {s y:Sl} {t:Tre} {p q:ByteArray} {held:List Bool} {V:View} (h:SlR V s t) (hy:SlR V y held) (hp:p.size≤9223372036854775807) (hq' :q.size≤9223372036854775807) (hg:Glo V):af Tryz.prog 100 ⟨[aZ s,.string p,.string q,.slice y.a y.n y.c]⟩ V fun r V' =>gH V V' r (cz t p q held):=by
 refine JL ?_
 unfold Bu
 have hn:=h.n
 refine fun _ _=>(qS h hp hg).mono ?_
 rintro r0 V1 ⟨rfl,hV1⟩
 cases hP:aH t p with
 | error e=>
   rw[mz hP]
   exact⟨_,_,_,_,rfl,fun _=>aa (fun _=>bI (bS hP) hV1 (by unfold cz;rw[hP])) (fun h=>absurd (of_decide_eq_true (aD h)) (bS hP))⟩
 | ok z=>
   obtain⟨d,n⟩:=z
   obtain⟨ld,P⟩:=dz hP
   have hd:=P.d12
   have h12:=(bq P.may).1
   rw[om hP]
   generalize hi:atI (ag t d) n=i
   by_cases h0:i<0
   ·rw[if_pos h0]
    refine⟨_,_,_,_,rfl,fun _=>aa (fun _=>bI (by decide) hV1 ?_) (fun h=>absurd h (by decide))⟩
    unfold cz;rw[hP];dsimp only;rw[if_pos (by rw[hi];exact h0)]
   rw[if_neg h0]
   obtain⟨k0,k1,k2,k3,_⟩:=eY P.may (d:=d) (s:=n) (by rw[hi];exact h0)
   rw[hi]at k1 k2 k3
   refine⟨_,_,_,_,rfl,fun _=>aa (fun h=>absurd h (by decide)) (fun _=>(zq (h.mono hV1) hq' (hg.mono hV1)).mono ?_)⟩
   rintro r0 V2 ⟨rfl,hV2⟩
   have q2:=hV1.trans hV2
   cases hQ:aH t q with
   | error e=>
     rw[zu hQ]
     refine⟨_,_,_,_,rfl,fun _=>aa (fun _=>bI (bS hQ) q2 ?_) (fun h=>absurd (of_decide_eq_true (aD h)) (bS hQ))⟩
     unfold cz;rw[hP];dsimp only;rw[if_neg (by rw[hi];exact h0),hQ]
   | ok z=>
     obtain⟨f,r⟩:=z
     obtain⟨lf,Q⟩:=dz hQ
     have hf:=Q.d12
     rw[Du hQ]
     have hmv:=th P Q (held:=held) i.toNat
     have hE1:=ym P Q
     have hR:cz t p q held=if atI (ag t f) r=i then .ok t else if eF t i f=true then .error 17 else
       if 0≤atI (ag t f) r∧fy (t.getD i.toNat default) (t.getD (atI (ag t f) r).toNat default)≠0 then .error (fy (t.getD i.toNat default) (t.getD (atI (ag t f) r).toNat default))else
       if 10≤(ag (bM t d n i.toNat f r (atI (ag t f) r) held) f).length then .error 14 else
       .ok (aJ (bM t d n i.toNat f r (atI (ag t f) r) held) f (bu (ag (bM t d n i.toNat f r (atI (ag t f) r) held) f) ⟨r,i⟩)):=by
      unfold cz;rw[hP];dsimp only;rw[hi,if_neg h0,hQ]
     rw[hi]at hE1
     have hkat:=Q.at
     have hkk:0≤atI (ag t f) r→(atI (ag t f) r).toNat≠f:=fun h=>eG Q.may (by omega)
     have hmoveE:bM t d n i.toNat f r (atI (ag t f) r) held=if 0≤atI (ag t f) r then cj (aJ (aJ t d (aI (ag t d) n)) f (aI (ag (aJ t d (aI (ag t d) n)) f) r)) (atI (ag t f) r).toNat held else aJ t d (aI (ag t d) n):=rfl
     generalize hk:atI (ag t f) r=k at*
     refine⟨_,_,_,_,rfl,fun _=>aa (fun h=>absurd h (by decide)) (fun _=>aa (fun he=> ?_) (fun he=> ?_))⟩
     ·have he:=of_decide_eq_true he
      refine(eS (h.mono q2) (bU P.may)).mono ?_
      rintro r0 V3 ⟨x,rfl,hO⟩
      rw[hR,if_pos he]
      exact⟨x,rfl,⟨x,0,rfl,rfl,hO.slR⟩,q2.trans hO.le⟩
     have he:=of_decide_eq_false he
     rw[if_neg he]at hR
     refine(Ak (h.mono q2)).mono ?_
     rintro r0 V3 ⟨rfl,hV3⟩
     have q3:=q2.trans hV3
     refine⟨_,rfl,aa (fun hin=>bI (by decide) q3 (by rw[hR,if_pos hin])) (fun hin=> ?_)⟩
     rw[if_neg (by rw[hin];decide)]at hR
     refine(eS (h.mono q3) (bU P.may)).mono ?_
     rintro r0 V4 ⟨x,rfl,hO⟩
     refine⟨x,rfl,fun b hb=> ?_⟩
     obtain⟨b1,b2⟩:=ny hO hb
     refine⟨b1,(lu b2 (d:=d) (by omega) (fz P (by rw[hi];exact h0))).mono ?_⟩
     rintro r0 V5 ⟨rfl,h5⟩
     have hnlen:=P.size;have hrlen:=Q.size
     refine⟨rfl, ?_⟩
     refine ai (fun _ V' =>fQ V3 V' b x (bM t d n i.toNat f r k held)∧¬(0≤k∧fy (t.getD i.toNat default) (t.getD k.toNat default)≠0)) (aa (fun hk0=> ?_) (fun hk0=>⟨?_,fun h=>(of_decide_eq_false hk0) h.1⟩)) ?_
     ·have hk0:=of_decide_eq_true hk0
      have hk12:1≤k∧k<12:=by omega
      have hsee:=h.mono (q3.trans h5.own.le)
      obtain⟨ad,sq,en,ha,hc,hN⟩:=hsee.bO (i:=i.toNat) (by omega)
      obtain⟨ad',sq',en',ha',hc',hN'⟩:=hsee.bO (i:=k.toNat) (by omega)
      refine⟨trivial,V5,View.Le.refl _,by omega,by omega,ad,ha,_,_,_,sq,en,hc,by omega,by omega,ad',ha',_,_,_,sq',en',hc',(wz hN').mono ?_⟩
      rintro r0 V6 ⟨rfl,rfl⟩
      refine⟨_,rfl,aa (fun hb=> ?_) (fun hb=> ?_)⟩
      ·have hb:=of_decide_eq_false (aM hb)
       exact bI hb (q3.trans h5.own.le) (by rw[hR,if_pos ⟨hk0,hb⟩])
      have hb:=of_decide_eq_true (aD hb)
      have hw:dy (ag (aJ t d (aI (ag t d) n)) f) r= .ok (aI (ag (aJ t d (aI (ag t d) n)) f) r):=by
       have e1:ag (aJ t d (aI (ag t d) n)) f=E1 t d n f:=by rw[cP (by omega)];rfl
       rw[e1]
       exact iX (oq P Q) (by rw[hE1 he,decide_eq_true hk0])
      refine(lu h5 (d:=f) (by rw[aE];omega) hw).mono ?_
      rintro r0 V7 ⟨rfl,h7⟩
      rw[pN hk12.1]
      have hlk:0≤((aJ (aJ t d (aI (ag t d) n)) f (aI (ag (aJ t d (aI (ag t d) n)) f) r)).getD k.toNat default).links:=by
       rw[cK (hkk hk0)]
       by_cases e:k.toNat=d
       ·rw[e,jA (by omega)];exact(eA P.may hd).1
       ·rw[cK e];exact(eA P.may (by omega)).1
      refine⟨rfl,(uH h7 (i:=k.toNat) (by rw[aE,aE];omega) hlk (hy.mono q3)).mono ?_⟩
      rintro r0 V8 ⟨rfl,h8⟩
      refine⟨rfl, ?_,fun h=>h.2 hb⟩
      rw[hmoveE,if_pos hk0];exact h8
     ·have hk0:=of_decide_eq_false hk0
      rw[hmoveE,if_neg hk0];exact h5
     ·rintro⟨⟩ V6 ⟨h6,hcond⟩
      rw[if_neg hcond]at hR
      have hmay:bZ (ag (bM t d n i.toNat f r k held) f)=true:=by
       rw[hmv];split
       ·exact jz (oq P Q) r
       ·exact oq P Q
      have hhas:eT (ag (bM t d n i.toNat f r k held) f) r=false:=by
       rw[hmv];split
       ·exact uF _ _
       ·rename_i hk0;rw[hE1 he,decide_eq_false hk0]
      have hwith:fS (ag (bM t d n i.toNat f r k held) f) ⟨r,i⟩=if 10≤(ag (bM t d n i.toNat f r k held) f).length then .error 14 else .ok (bu (ag (bM t d n i.toNat f r k held) f) ⟨r,i⟩):=by
       rw[jU hmay (by unfold dG;rw[show cG (⟨r,i⟩:Ent).name=true from Q.uG,decide_eq_true (show 1≤(⟨r,i⟩:Ent).node from k1),decide_eq_true (show(⟨r,i⟩:Ent).node<12 from k2)];rfl)]
       rw[if_neg (by show ¬eT _ r=true;rw[hhas];decide)]
      refine(og h6 (d:=f) (by rw[nC];omega) (by omega) (au (by omega) (by omega)) hwith (fun c hc=> ?_)).mono ?_
      ·split at hc<;>cases hc;decide
      rintro r0 V7 ⟨h7,h7e,hle7⟩
      by_cases hfull:10≤(ag (bM t d n i.toNat f r k held) f).length
      ·rw[if_pos hfull]at hR
       obtain rfl:=h7e 14 (if_pos hfull)
       exact⟨_,rfl,aa (fun _=>bI (by decide) (q3.trans hle7) hR) (fun h=>absurd h (by decide))⟩
      ·rw[if_neg hfull]at hR
       obtain⟨rfl,hb7⟩:=h7 _ (if_neg hfull)
       rw[hR]
       exact⟨_,rfl,aa (fun h=>absurd h (by decide)) (fun _=>⟨x,hb7.cells,⟨x,0,rfl,rfl,hb7.own.slR⟩,q3.trans hb7.own.le⟩)⟩
def eH (l:List Ent) (x:Int):Nat:=l.countP fun e=>decide (e.node=x)
theorem dc {t:Tre} {k j:Nat} {n:Nod} (hk:k<t.length):(t.set k n).getD j default=if j=k then n else t.getD j default:=by
 by_cases h:j=k
 ·subst h;rw[if_pos rfl,aB (by simpa using hk),List.getElem_set_self]
 ·rw[if_neg h,List.getD_eq_getElem?_getD,List.getElem?_set_ne (fun e=>h e.symm), ←List.getD_eq_getElem?_getD]
theorem dA {x:Int} :∀ {t:Tre} {k:Nat} {n:Nod},k<t.length→aL (t.set k n) x+eH (ag t k) x=aL t x+eH n.az x
 | [],_,_,h=>absurd h (by simp)
 | m::t,0,n,_=>by
   show aL (n::t) x+eH m.az x=_
   unfold aL eH
   rw[ia,ia,List.countP_append,List.countP_append];omega
 | m::t,k+1,n,h=>by
   have ih:=dA (x:=x) (t:=t) (k:=k) (n:=n) (by simpa using h)
   show aL (m::t.set k n) x+eH (ag t k) x=_
   unfold aL at ih ⊢
   rw[ia,ia,List.countP_append,List.countP_append];omega
theorem wA:∀ {t:Tre} {k:Nat} {n:Nod},k<t.length→List.Sublist (n.an.filter fun s=>decide (s≠0)) ((t.getD k default).an.filter fun s=>decide (s≠0))→List.Sublist ((bC (t.set k n)).filter fun s=>decide (s≠0)) ((bC t).filter fun s=>decide (s≠0))
 | [],_,_,h,_=>absurd h (by simp)
 | m::t,0,n,_,hs=>by
   have e1:bC ((m::t).set 0 n)=n.an++bC t:=by simp [bC]
   have e2:bC (m::t)=m.an++bC t:=by simp [bC]
   rw[e1,e2,List.filter_append,List.filter_append]
   exact List.Sublist.append hs (List.Sublist.refl _)
 | m::t,k+1,n,h,hs=>by
   have ih:=wA (t:=t) (k:=k) (n:=n) (by simpa using h) (by simpa using hs)
   have e1:bC ((m::t).set (k+1) n)=m.an++bC (t.set k n):=by simp [bC]
   have e2:bC (m::t)=m.an++bC t:=by simp [bC]
   rw[e1,e2,List.filter_append,List.filter_append]
   exact List.Sublist.append (List.Sublist.refl _) ih
theorem dB {t:Tre} {k:Nat} {n:Nod} (h:b6 (bC t)=true) (hk:k<t.length) (hs:List.Sublist (n.an.filter fun s=>decide (s≠0)) ((t.getD k default).an.filter fun s=>decide (s≠0))):b6 (bC (t.set k n))=true:=by
 unfold b6 at h ⊢
 exact decide_eq_true ((of_decide_eq_true h).sublist (wA hk hs))
theorem lz {t:Tre} (h:j6 t) (ha:b6 (bC t)=true):aY t=true:=by
 unfold aY
 simp only [Bool.and_eq_true,decide_eq_true_eq,List.all_eq_true,List.mem_range]
 refine⟨⟨⟨⟨h.len,h.may⟩,h.top⟩,fun i hi=> ?_⟩,ha⟩
 rw[k8 12 (dh t) hi]
 unfold gB
 rcases fI (h.at hi)with hk | hk | hk
 ·rw[if_neg (by omega),if_neg (by omega)]
  have:=h.none i hi hk
  unfold aL at this
  rw[this];rfl
 ·rw[if_neg (by omega),if_pos hk]
  exact decide_eq_true (h.file i hi hk)
 ·rw[if_pos hk]
  obtain⟨h1,h2⟩:=h.dir i hi hk
  rw[fH.2 h1,Bool.true_and,Bool.or_eq_true,decide_eq_true_eq,decide_eq_true_eq]
  rcases h2 with h2 | h2
  ·left;omega
  ·right;unfold aL at h2;omega
theorem eB {t:Tre} (h:aY t=true):b6 (bC t)=true:=(bq h).2.2.2.2
theorem pO (l:List Ent) (x:Ent) (y:Int):eH (bu l x) y=eH l y+if x.node=y then 1 else 0:=by
 unfold eH
 rw[(wu l x).countP_eq,List.countP_cons]
 simp only [decide_eq_true_eq]
theorem zx {l:List Ent} {x:Ent} (h:bZ l=true) (hx:x∈l) (y:Int):eH l y=eH (aI l x.name) y+if x.node=y then 1 else 0:=by
 rw[←pO,FU h hx]
theorem gp {t u:Tre} (h:∀p e,e∈ag t p→∃e' ∈ag u p,e'.node=e.node) {a b:Nat} (hr:Reach t a b):Reach u a b:=by
 induction hr with
 | refl=>exact .refl
 | @step i x _ hx ih=>
   obtain⟨e',h1,h2⟩:=h i x hx
   rw[←h2];exact .step ih h1
theorem oX {t u:Tre} {A:Nat→Prop} (h:∀p e,e∈ag t p→¬A e.node.toNat→∃e' ∈ag u p,e'.node=e.node) {a b:Nat} (hr:Reach t a b) (hA:∀i,A i→¬Reach t i b):Reach u a b:=by
 induction hr with
 | refl=>exact .refl
 | @step i x _ hx ih=>
   obtain⟨e',h1,h2⟩:=h i x hx fun ha=>hA _ ha .refl
   rw[←h2];exact .step (ih fun j hj hr=>hA j hj (.step hr hx)) h1
theorem uI {t:Tre} (h:j6 t) {d:Nat} {e e' :Ent} (he:e∈ag t d) (he' :e' ∈ag t d) (hn:e.name=e'.name):e=e' :=by
 obtain⟨i,hi,rfl⟩:=List.mem_iff_getElem.1 he
 obtain⟨j,hj,rfl⟩:=List.mem_iff_getElem.1 he'
 have hp:=List.pairwise_iff_getElem.1 (h.pair d)
 rcases Nat.lt_trichotomy i j with h9 | h9 | h9
 ·exact absurd hn (hp i j hi hj h9)
 ·subst h9;rfl
 ·exact absurd hn.symm (hp j i hj hi h9)
theorem zy {t:Tre} (h:j6 t) {i:Nat} (hi:i<12) (hk:ak t i=0):t.getD i default=Nod.zero:=by
 have hm:=h.at hi
 unfold bA at hm
 rw[if_pos hk]at hm
 simp only [Bool.and_eq_true,decide_eq_true_eq]at hm
 have hk:(t.getD i default).kind=0:=hk
 generalize t.getD i default=n at*
 obtain⟨k,l,z,sq,en⟩:=n
 simp only at hm hk
 have h1:sq= []:=List.eq_nil_of_length_eq_zero hm.1.2
 have h2:en= []:=List.eq_nil_of_length_eq_zero hm.2
 rw[hk,hm.1.1.1,hm.1.1.2,h1,h2];rfl
theorem kO {n:Nod} {l:List Ent} (h:bA n=true) (hk:n.kind=2) (hl:bZ l=true):bA { n with az:=l } =true:=by
 unfold bA at h ⊢
 simp only
 rw[if_neg (by omega),if_neg (by omega),if_pos hk]at h ⊢
 simp only [Bool.and_eq_true,decide_eq_true_eq]at h ⊢
 exact⟨h.1,hl⟩
theorem tj {n:Nod} {k:Int} (h:bA n=true) (hk:n.kind=1) (h0:0≤k) (h1:k≤120):bA { n with links:=k } =true:=by
 unfold bA at h ⊢
 simp only
 rw[if_neg (by omega),if_pos hk]at h ⊢
 unfold fG at h ⊢
 simp only [Bool.and_eq_true,decide_eq_true_eq]at h ⊢
 refine⟨⟨⟨⟨?_,h.1.1.1.2⟩,h.1.1.2⟩,h.1.2⟩,h.2⟩
 unfold within
 rw[decide_eq_true h0,decide_eq_true h1];rfl
theorem fA {t:Tre} (h:j6 t) {i:Nat} (_hi:i<12) (hk:ak t i≠2):ag t i= []:=by
 cases he:ag t i with
 | nil=>rfl
 | cons e l=>exact absurd (h.ent (i:=i) (e:=e) (by rw[he];simp)).2.1 hk
theorem mA {t:Tre} (h12:t.length=12) {P:Nod→Prop} (h:∀i,i<12→P (t.getD i default)):∀n∈t,P n:=fun n hn=>by
 obtain⟨i,hi,rfl⟩:=List.mem_iff_getElem.1 hn
 have:=h i (by omega)
 rwa [aB hi]at this
theorem Dx {t:Tre} (h12:t.length=12) (h:∀n∈t,n.az.length≤10) (x:Int):aL t x≤120:=by
 have h1:=kC (t:=t) (m:=10) h
 have h2:=List.countP_le_length (p:=fun e:Ent=>decide (e.node=x)) (l:=dh t)
 unfold aL;omega
theorem FY {t:Tre} (hM:aY t=true) {d i:Nat} {s:ByteArray} {k:Int} (hk:k=1∨k=2) (hd:d<12) (hkd:ak t d=2) (hi:i<12) (hki:ak t i=0) (hs:cG s=true) (hn:eT (ag t d) s=false) (hl:(ag t d).length<10):
  aY ((aJ t d (bu (ag t d) ⟨s,i⟩)).set i (aQ k))=true:=by
 have hF:=bP hM
 have h12:=hF.len
 have hi0:i≠0:=fun e=>by rw[e,hF.top]at hki;cases hki
 have hid:i≠d:=fun e=>by rw[e,hkd]at hki;cases hki
 have hz:=zy hF hi hki
 have hsole:dG ⟨s,(i:Int)⟩=true:=by
  unfold dG
  rw[show cG (⟨s,(i:Int)⟩:Ent).name=true from hs,decide_eq_true (show 1≤(⟨s,(i:Int)⟩:Ent).node by show(1:Int)≤i;omega),decide_eq_true (show(⟨s,(i:Int)⟩:Ent).node<12 by show(i:Int)<12;omega)];rfl
 have hL:=bV (hF.at hd)
 have hL' :bZ (bu (ag t d) ⟨s,i⟩)=true:=qR hL hsole hn hl
 have hat:∀j,((aJ t d (bu (ag t d) ⟨s,i⟩)).set i (aQ k)).getD j default=if j=i then aQ k else if j=d then { t.getD d default with az:=bu (ag t d) ⟨s,i⟩ } else t.getD j default:=by
  intro j
  rw[dc (by rw[aE];omega)]
  by_cases hj:j=i
  ·rw[if_pos hj,if_pos hj]
  ·rw[if_neg hj,if_neg hj]
   unfold aJ;rw[dc (by omega)]
 have hee:(aQ k).az= []:=by rcases hk with rfl | rfl<;>rfl
 have hnm:∀x:Int,aL ((aJ t d (bu (ag t d) ⟨s,i⟩)).set i (aQ k)) x=aL t x+if(i:Int)=x then 1 else 0:=by
  intro x
  have h1:=dA (x:=x) (t:=aJ t d (bu (ag t d) ⟨s,i⟩)) (k:=i) (n:=aQ k) (by rw[aE];omega)
  have h2:aL (aJ t d (bu (ag t d) ⟨s,i⟩)) x+eH (ag t d) x=aL t x+eH (bu (ag t d) ⟨s,i⟩) x:=dA (x:=x) (t:=t) (k:=d) (n:= { t.getD d default with az:=bu (ag t d) ⟨s,i⟩ }) (by omega)
  have h3:eH (bu (ag t d) ⟨s,i⟩) x=eH (ag t d) x+if(i:Int)=x then 1 else 0:=pO (ag t d) ⟨s,i⟩ x
  have h4:ag (aJ t d (bu (ag t d) ⟨s,i⟩)) i= []:=by rw[cP (by omega),if_neg hid];unfold ag;rw[hz];rfl
  rw[h4,hee]at h1
  have h5:eH [] x=0:=rfl
  omega
 generalize hu:(aJ t d (bu (ag t d) ⟨s,i⟩)).set i (aQ k)=u at*
 have hul:u.length=12:=by rw[←hu];simp [aE,h12]
 have hkj:∀j,j≠i→ak u j=ak t j:=by
  intro j hj
  unfold ak;rw[hat,if_neg hj]
  split
  ·rename_i e;subst e;rfl
  ·rfl
 have hki' :ak u i=k:=by unfold ak;rw[hat,if_pos rfl];rcases hk with rfl | rfl<;>rfl
 have hed:ag u d=bu (ag t d) ⟨s,i⟩:=by unfold ag;rw[hat,if_neg (fun e=>hid e.symm),if_pos rfl]
 have hgrow:∀p e,e∈ag t p→∃e' ∈ag u p,e'.node=e.node:=by
  intro p e he
  have hp:=hF.ent he
  have hpi:p≠i:=fun e=>by rw[e,hki]at hp;exact absurd hp.2.1 (by decide)
  by_cases hpd:p=d
  ·subst hpd;rw[hed];exact⟨e,gS.2 (.inr he),rfl⟩
  ·refine⟨e, ?_,rfl⟩
   unfold ag;rw[hat,if_neg hpi,if_neg hpd];exact he
 refine lz ⟨hul,mA hul fun j hj=> ?_, ?_,fun j hj hkj2=> ?_,fun j hj hkj1=> ?_,fun j hj hkj0=> ?_⟩ ?_
 ·rw[hat];split
  ·rcases hk with rfl | rfl<;>decide
  ·split
   ·exact kO (hF.at hd) hkd hL'
   ·exact hF.at hj
 ·rw[hkj 0 (fun e=>hi0 e.symm)];exact hF.top
 ·by_cases hji:j=i
  ·subst hji
   have hrd:=gp hgrow (hF.dir d hd hkd).1
   refine⟨?_,.inr ?_⟩
   ·have:=Reach.step (x:=⟨s,(j:Int)⟩) hrd (by
     show _∈ag u d
     rw[hed];exact gS.2 (.inl rfl))
    simpa using this
   ·rw[hnm,if_pos rfl,hF.none j hj hki]
  ·rw[hkj j hji]at hkj2
   obtain⟨h1,h2⟩:=hF.dir j hj hkj2
   refine⟨gp hgrow h1, ?_⟩
   rw[hnm,if_neg (by omega)];exact h2
 ·by_cases hji:j=i
  ·subst hji
   rw[hnm,if_pos rfl,hF.none j hj hki,hat,if_pos rfl]
   rw[hki']at hkj1;subst hkj1;rfl
  ·rw[hkj j hji]at hkj1
   have:=hF.file j hj hkj1
   rw[hnm,if_neg (by omega),hat,if_neg hji]
   split
   ·rename_i e;subst e;exact this
   ·exact this
 ·by_cases hji:j=i
  ·subst hji;rw[hki']at hkj0;rcases hk with h | h<;>omega
  ·rw[hkj j hji]at hkj0
   rw[hnm,if_neg (by omega)];exact hF.none j hj hkj0
 ·rw[←hu]
  refine dB (dB (eB hM) (by omega) (List.Sublist.refl _)) (by rw[aE];omega) ?_
  have:(aQ k).an.filter (fun s=>decide (s≠0))= []:=by rcases hk with rfl | rfl<;>rfl
  rw[this];exact List.nil_sublist _
theorem uJ {t:Tre} (hM:aY t=true) {d i:Nat} {s:ByteArray} {x:Ent} {held:List Bool} (hx:x∈ag t d) (hs:x.name=s) (hxi:x.node=i) (hemp:ag t i= []):
  aY (cj (aJ t d (aI (ag t d) s)) i held)=true:=by
 subst hs
 have hF:=bP hM
 have h12:=hF.len
 obtain⟨hd,hkd,hi1,hi2,_,hki⟩:=hF.ent hx
 have hi:i<12:=by omega
 rw[hxi,Int.toNat_natCast]at hki
 have hid:i≠d:=fun e=>hF.uB hx (by rw[hxi,Int.toNat_natCast,e];exact .refl)
 have hL:=bV (hF.at hd)
 have hL' :=jz hL x.name
 have hone:1≤aL t (i:Int):=ic hx hxi
 obtain⟨ni,hni,hcase⟩:∃ni,cj (aJ t d (aI (ag t d) x.name)) i held=(aJ t d (aI (ag t d) x.name)).set i ni∧((ak t i=1∧ni= { t.getD i default with links:=(t.getD i default).links-1 })∨(ni=Nod.zero∧(ak t i=1→(t.getD i default).links≤1))):=by
  unfold cj
  have e1:=cK (t:=t) (l:=aI (ag t d) x.name) hid
  unfold ak
  rw[e1]
  split
  ·rename_i h;exact⟨_,rfl,.inl ⟨h.1,rfl⟩⟩
  ·rename_i h
   refine⟨_,rfl,.inr ⟨rfl,fun hk=> ?_⟩⟩
   apply Classical.byContradiction
   intro hl
   exact h ⟨hk,.inl (by omega)⟩
 rw[hni]
 have hnie:ni.az= []:=by
  rcases hcase with ⟨_,rfl⟩ | ⟨rfl,_⟩
  ·exact hemp
  ·rfl
 have hat:∀j,((aJ t d (aI (ag t d) x.name)).set i ni).getD j default=if j=i then ni else if j=d then { t.getD d default with az:=aI (ag t d) x.name } else t.getD j default:=by
  intro j
  rw[dc (by rw[aE];omega)]
  by_cases hj:j=i
  ·rw[if_pos hj,if_pos hj]
  ·rw[if_neg hj,if_neg hj]
   unfold aJ;rw[dc (by omega)]
 have hnm:∀y:Int,aL ((aJ t d (aI (ag t d) x.name)).set i ni) y+(if(i:Int)=y then 1 else 0)=aL t y:=by
  intro y
  have h1:=dA (x:=y) (t:=aJ t d (aI (ag t d) x.name)) (k:=i) (n:=ni) (by rw[aE];omega)
  have h2:aL (aJ t d (aI (ag t d) x.name)) y+eH (ag t d) y=aL t y+eH (aI (ag t d) x.name) y:=dA (x:=y) (t:=t) (k:=d) (n:= { t.getD d default with az:=aI (ag t d) x.name }) (by omega)
  have h3:eH (ag t d) y=eH (aI (ag t d) x.name) y+if x.node=y then 1 else 0:=zx hL hx y
  have h4:ag (aJ t d (aI (ag t d) x.name)) i= []:=by rw[cP (by omega),if_neg hid];exact hemp
  rw[h4,hnie]at h1
  have h5:eH [] y=0:=rfl
  rw[hxi]at h3
  omega
 generalize hu:(aJ t d (aI (ag t d) x.name)).set i ni=u at*
 have hul:u.length=12:=by rw[←hu];simp [aE,h12]
 have hkj:∀j,j≠i→ak u j=ak t j:=by
  intro j hj
  unfold ak;rw[hat,if_neg hj]
  split
  ·rename_i e;subst e;rfl
  ·rfl
 have hki' :ak u i=ni.kind:=by unfold ak;rw[hat,if_pos rfl]
 have hkeep:∀p e,e∈ag t p→¬(e.node.toNat=i)→∃e' ∈ag u p,e'.node=e.node:=by
  intro p e he hne
  have hp:=hF.ent he
  have hpi:p≠i:=fun q=>by rw[q,hemp]at he;cases he
  refine⟨e, ?_,rfl⟩
  unfold ag;rw[hat,if_neg hpi]
  by_cases hpd:p=d
  ·subst hpd
   rw[if_pos rfl]
   exact gR.2 ⟨he,fun hn=>hne (by rw[uI hF he hx hn,hxi];rfl)⟩
  ·rw[if_neg hpd];exact he
 have hreach:∀j,j≠i→Reach t 0 j→Reach u 0 j:=fun j hj hr=>
  oX (A:=fun q=>q=i) hkeep hr fun q hq hr2=>by subst hq;exact hj (qL hemp hr2)
 refine lz ⟨hul,mA hul fun j hj=> ?_, ?_,fun j hj hkj2=> ?_,fun j hj hkj1=> ?_,fun j hj hkj0=> ?_⟩ ?_
 ·rw[hat];split
  ·rcases hcase with ⟨h1,rfl⟩ | ⟨rfl,_⟩
   ·have hf:=hF.file i hi h1
    have hl:=eA hM hi
    exact tj (hF.at hi) h1 (by omega) (by omega)
   ·decide
  ·split
   ·exact kO (hF.at hd) hkd hL'
   ·exact hF.at hj
 ·rw[hkj 0 (fun e=>by have:=hF.zero hx;omega)];exact hF.top
 ·by_cases hji:j=i
  ·subst hji
   rw[hki']at hkj2
   rcases hcase with ⟨h1,rfl⟩ | ⟨rfl,_⟩
   ·have:ak t j=2:=hkj2
    omega
   ·exact absurd hkj2 (by decide)
  ·rw[hkj j hji]at hkj2
   obtain⟨h1,h2⟩:=hF.dir j hj hkj2
   refine⟨hreach j hji h1, ?_⟩
   have:=hnm j
   rw[if_neg (by omega)]at this
   omega
 ·by_cases hji:j=i
  ·subst hji
   have h3:=hnm j
   rw[if_pos rfl]at h3
   rw[hki']at hkj1
   rcases hcase with ⟨h1,rfl⟩ | ⟨rfl,_⟩
   ·have hf:=hF.file j hj h1
    rw[hat,if_pos rfl]
    show(t.getD j default).links-1=_
    omega
   ·exact absurd hkj1 (by decide)
  ·rw[hkj j hji]at hkj1
   have:=hF.file j hj hkj1
   have h3:=hnm j
   rw[if_neg (by omega)]at h3
   rw[hat,if_neg hji]
   split
   ·rename_i e;subst e
    show(t.getD j default).links=_
    omega
   ·omega
 ·have h3:=hnm j
  by_cases hji:j=i
  ·subst hji
   rw[if_pos rfl]at h3
   rw[hki']at hkj0
   rcases hcase with ⟨h1,rfl⟩ | ⟨rfl,h2⟩
   ·have:ak t j=0:=hkj0
    omega
   ·rcases fI (hF.at hj)with hk | hk | hk
    ·exact absurd hk hki
    ·have hf:=hF.file j hj hk
     have:=h2 hk
     omega
    ·have:=(hF.dir j hj hk).2
     have:=hF.zero hx
     omega
  ·rw[hkj j hji]at hkj0
   have:=hF.none j hj hkj0
   omega
 ·rw[←hu]
  refine dB (dB (eB hM) (by omega) (List.Sublist.refl _)) (by rw[aE];omega) ?_
  rw[cK hid]
  rcases hcase with ⟨_,rfl⟩ | ⟨rfl,_⟩
  ·exact List.Sublist.refl _
  ·exact List.nil_sublist _
theorem pP {s:ByteArray} {i:Nat} (hs:cG s=true) (h0:i≠0) (hi:i<12):dG ⟨s,(i:Int)⟩=true:=by
 unfold dG
 rw[show cG (⟨s,(i:Int)⟩:Ent).name=true from hs,decide_eq_true (show 1≤(⟨s,(i:Int)⟩:Ent).node by show(1:Int)≤i;omega),decide_eq_true (show(⟨s,(i:Int)⟩:Ent).node<12 by show(i:Int)<12;omega)];rfl
theorem FZ {t:Tre} (h:j6 t) {d:Nat} {l:List Ent} (hl:l.length≤10) (hd:d<12):∀n∈aJ t d l,n.az.length≤10:=
 mA (by rw[aE,h.len]) fun j hj=>by
  have:=cP (t:=t) (d:=d) (j:=j) (l:=l) (by rw[h.len];exact hd)
  unfold ag at this
  rw[this];split
  ·exact hl
  ·exact ey (bV (h.at hj))
theorem Dy {t:Tre} (hM:aY t=true) {d i:Nat} {s:ByteArray} (hd:d<12) (hkd:ak t d=2) (hi:i<12) (hki:ak t i=1) (hs:cG s=true) (hn:eT (ag t d) s=false) (hl:(ag t d).length<10):
  aY ((aJ t d (bu (ag t d) ⟨s,i⟩)).set i { t.getD i default with links:=(t.getD i default).links+1 })=true:=by
 have hF:=bP hM
 have h12:=hF.len
 have hi0:i≠0:=fun e=>by rw[e,hF.top]at hki;cases hki
 have hid:i≠d:=fun e=>by rw[e,hkd]at hki;cases hki
 have hemp:=fA hF hi (by omega)
 have hL:=bV (hF.at hd)
 have hL' :bZ (bu (ag t d) ⟨s,i⟩)=true:=qR hL (pP hs hi0 hi) hn hl
 have hat:∀j,((aJ t d (bu (ag t d) ⟨s,i⟩)).set i { t.getD i default with links:=(t.getD i default).links+1 }).getD j default=if j=i then { t.getD i default with links:=(t.getD i default).links+1 } else if j=d then { t.getD d default with az:=bu (ag t d) ⟨s,i⟩ } else t.getD j default:=by
  intro j
  rw[dc (by rw[aE];omega)]
  by_cases hj:j=i
  ·rw[if_pos hj,if_pos hj]
  ·rw[if_neg hj,if_neg hj]
   unfold aJ;rw[dc (by omega)]
 have hnm0:∀x:Int,aL (aJ t d (bu (ag t d) ⟨s,i⟩)) x=aL t x+if(i:Int)=x then 1 else 0:=by
  intro x
  have h2:aL (aJ t d (bu (ag t d) ⟨s,i⟩)) x+eH (ag t d) x=aL t x+eH (bu (ag t d) ⟨s,i⟩) x:=dA (x:=x) (t:=t) (k:=d) (n:= { t.getD d default with az:=bu (ag t d) ⟨s,i⟩ }) (by omega)
  have h3:eH (bu (ag t d) ⟨s,i⟩) x=eH (ag t d) x+if(i:Int)=x then 1 else 0:=pO (ag t d) ⟨s,i⟩ x
  omega
 have hnm:∀x:Int,aL ((aJ t d (bu (ag t d) ⟨s,i⟩)).set i { t.getD i default with links:=(t.getD i default).links+1 }) x=aL t x+if(i:Int)=x then 1 else 0:=by
  intro x
  have h1:=dA (x:=x) (t:=aJ t d (bu (ag t d) ⟨s,i⟩)) (k:=i) (n:= { t.getD i default with links:=(t.getD i default).links+1 }) (by rw[aE];omega)
  have h4:ag (aJ t d (bu (ag t d) ⟨s,i⟩)) i= []:=by rw[cP (by omega),if_neg hid];exact hemp
  have h5:({ t.getD i default with links:=(t.getD i default).links+1 } :Nod).az= []:=hemp
  rw[h4,h5]at h1
  have h6:=hnm0 x
  omega
 have hle:=Dx (t:=aJ t d (bu (ag t d) ⟨s,i⟩)) (by rw[aE,h12]) (FZ hF (ey hL') hd) i
 rw[hnm0,if_pos rfl]at hle
 generalize hu:(aJ t d (bu (ag t d) ⟨s,i⟩)).set i { t.getD i default with links:=(t.getD i default).links+1 } =u at*
 have hul:u.length=12:=by rw[←hu];simp [aE,h12]
 have hkj:∀j,ak u j=ak t j:=by
  intro j
  unfold ak;rw[hat]
  split
  ·rename_i e;subst e;rfl
  ·split
   ·rename_i e;subst e;rfl
   ·rfl
 have hed:ag u d=bu (ag t d) ⟨s,i⟩:=by unfold ag;rw[hat,if_neg (fun e=>hid e.symm),if_pos rfl]
 have hgrow:∀p e,e∈ag t p→∃e' ∈ag u p,e'.node=e.node:=by
  intro p e he
  by_cases hpd:p=d
  ·subst hpd;rw[hed];exact⟨e,gS.2 (.inr he),rfl⟩
  ·refine⟨e, ?_,rfl⟩
   unfold ag;rw[hat]
   split
   ·rename_i e2;subst e2;exact he
   ·exact he
 have hfi:=hF.file i hi hki
 refine lz ⟨hul,mA hul fun j hj=> ?_,by rw[hkj];exact hF.top,fun j hj hkj2=> ?_,fun j hj hkj1=> ?_,fun j hj hkj0=> ?_⟩ ?_
 ·rw[hat];split
  ·exact tj (hF.at hi) hki (by omega) (by omega)
  ·split
   ·exact kO (hF.at hd) hkd hL'
   ·exact hF.at hj
 ·rw[hkj]at hkj2
  obtain⟨h1,h2⟩:=hF.dir j hj hkj2
  refine⟨gp hgrow h1, ?_⟩
  have hji:j≠i:=fun e=>by rw[e,hki]at hkj2;cases hkj2
  rw[hnm,if_neg (by omega)];exact h2
 ·rw[hkj]at hkj1
  have hf:=hF.file j hj hkj1
  by_cases hji:j=i
  ·subst hji
   rw[hnm,if_pos rfl,hat,if_pos rfl]
   show(t.getD j default).links+1=_
   omega
  ·rw[hnm,if_neg (by omega),hat,if_neg hji]
   split
   ·rename_i e;subst e;exact hf
   ·exact hf
 ·rw[hkj]at hkj0
  have hji:j≠i:=fun e=>by rw[e,hki]at hkj0;cases hkj0
  rw[hnm,if_neg (by omega)];exact hF.none j hj hkj0
 ·rw[←hu]
  refine dB (dB (eB hM) (by omega) (List.Sublist.refl _)) (by rw[aE];omega) ?_
  rw[cK hid];exact List.Sublist.refl _
theorem Dz {t:Tre} (hM:aY t=true) {i:Nat} (hi:i<12) (hki:ak t i=1) (hl:(t.getD i default).links≤0):aY (t.set i Nod.zero)=true:=by
 have hF:=bP hM
 have h12:=hF.len
 have hemp:=fA hF hi (by omega)
 have hfi:=hF.file i hi hki
 have hat:∀j,(t.set i Nod.zero).getD j default=if j=i then Nod.zero else t.getD j default:=fun j=>dc (by omega)
 have hents:∀j,ag (t.set i Nod.zero) j=ag t j:=by
  intro j
  unfold ag;rw[hat]
  split
  ·rename_i e;subst e;exact hemp.symm
  ·rfl
 have hnm:∀x:Int,aL (t.set i Nod.zero) x=aL t x:=by
  intro x
  have h1:=dA (x:=x) (t:=t) (k:=i) (n:=Nod.zero) (by omega)
  rw[hemp]at h1
  have h5:eH Nod.zero.az x=0:=rfl
  have h6:eH [] x=0:=rfl
  omega
 have hul:(t.set i Nod.zero).length=12:=by simp [h12]
 refine lz ⟨hul,mA hul fun j hj=> ?_, ?_,fun j hj hkj2=> ?_,fun j hj hkj1=> ?_,fun j hj hkj0=> ?_⟩ ?_
 ·rw[hat];split
  ·decide
  ·exact hF.at hj
 ·unfold ak;rw[hat,if_neg (fun e=>by rw[←e,hF.top]at hki;cases hki)];exact hF.top
 ·have hji:j≠i:=fun e=>by subst e;unfold ak at hkj2;rw[hat,if_pos rfl]at hkj2;cases hkj2
  have hkj2:ak t j=2:=by unfold ak at hkj2 ⊢;rw[hat,if_neg hji]at hkj2;exact hkj2
  obtain⟨h1,h2⟩:=hF.dir j hj hkj2
  exact⟨gp (fun p e he=>⟨e,by rw[hents];exact he,rfl⟩) h1,by rw[hnm];exact h2⟩
 ·have hji:j≠i:=fun e=>by subst e;unfold ak at hkj1;rw[hat,if_pos rfl]at hkj1;cases hkj1
  have hkj1:ak t j=1:=by unfold ak at hkj1 ⊢;rw[hat,if_neg hji]at hkj1;exact hkj1
  rw[hat,if_neg hji,hnm];exact hF.file j hj hkj1
 ·rw[hnm]
  by_cases hji:j=i
  ·subst hji;omega
  ·have hkj0:ak t j=0:=by unfold ak at hkj0 ⊢;rw[hat,if_neg hji]at hkj0;exact hkj0
   exact hF.none j hj hkj0
 ·exact dB (eB hM) (by omega) (List.nil_sublist _)
theorem wB {t:Tre} (hM:aY t=true) {d f i:Nat} {n r:ByteArray} {x:Ent} (hx:x∈ag t d) (hxn:x.name=n) (hxi:x.node=i) (hf:f<12) (hkf:ak t f=2) (hr:cG r=true) (hno:¬Reach t i f) (hh:eT (E1 t d n f) r=false) (hl:(E1 t d n f).length<10):
  aY (aJ (aJ t d (aI (ag t d) n)) f (bu (E1 t d n f) ⟨r,i⟩))=true:=by
 subst hxn
 have hF:=bP hM
 have h12:=hF.len
 obtain⟨hd,hkd,hi1,hi2,_,hki⟩:=hF.ent hx
 have hi:i<12:=by omega
 rw[hxi,Int.toNat_natCast]at hki
 have hL:=bV (hF.at hd)
 have hE:bZ (E1 t d x.name f)=true:=by
  unfold E1;split
  ·exact jz hL _
  ·exact bV (hF.at hf)
 have hE' :bZ (bu (E1 t d x.name f) ⟨r,i⟩)=true:=qR hE (pP hr (by omega) hi) hh hl
 have hat:∀j,(aJ (aJ t d (aI (ag t d) x.name)) f (bu (E1 t d x.name f) ⟨r,i⟩)).getD j default=if j=f then { t.getD f default with az:=bu (E1 t d x.name f) ⟨r,i⟩ } else if j=d then { t.getD d default with az:=aI (ag t d) x.name } else t.getD j default:=by
  intro j
  by_cases hj:j=f
  ·subst hj
   rw[if_pos rfl,jA (by rw[aE];omega)]
   by_cases e:j=d
   ·subst e;rw[jA (by omega)]
   ·rw[cK e]
  ·rw[if_neg hj,cK hj]
   by_cases e:j=d
   ·subst e;rw[if_pos rfl,jA (by omega)]
   ·rw[if_neg e,cK e]
 have hnm:∀y:Int,aL (aJ (aJ t d (aI (ag t d) x.name)) f (bu (E1 t d x.name f) ⟨r,i⟩)) y=aL t y:=by
  intro y
  have h1:aL (aJ (aJ t d (aI (ag t d) x.name)) f (bu (E1 t d x.name f) ⟨r,i⟩)) y+eH (ag (aJ t d (aI (ag t d) x.name)) f) y=aL (aJ t d (aI (ag t d) x.name)) y+eH (bu (E1 t d x.name f) ⟨r,i⟩) y:=dA (x:=y) (t:=aJ t d (aI (ag t d) x.name)) (k:=f) (n:= { (aJ t d (aI (ag t d) x.name)).getD f default with az:=bu (E1 t d x.name f) ⟨r,i⟩ }) (by rw[aE];omega)
  have h2:aL (aJ t d (aI (ag t d) x.name)) y+eH (ag t d) y=aL t y+eH (aI (ag t d) x.name) y:=dA (x:=y) (t:=t) (k:=d) (n:= { t.getD d default with az:=aI (ag t d) x.name }) (by omega)
  have h3:eH (ag t d) y=eH (aI (ag t d) x.name) y+if x.node=y then 1 else 0:=zx hL hx y
  have h4:eH (bu (E1 t d x.name f) ⟨r,i⟩) y=eH (E1 t d x.name f) y+if(i:Int)=y then 1 else 0:=pO _ _ _
  have h5:ag (aJ t d (aI (ag t d) x.name)) f=E1 t d x.name f:=by rw[cP (by omega)];rfl
  rw[h5]at h1
  rw[hxi]at h3
  omega
 generalize hu:aJ (aJ t d (aI (ag t d) x.name)) f (bu (E1 t d x.name f) ⟨r,i⟩)=u at*
 have hul:u.length=12:=by rw[←hu,aE,aE,h12]
 have hkj:∀j,ak u j=ak t j:=by
  intro j
  unfold ak;rw[hat]
  split
  ·rename_i e;subst e;rfl
  ·split
   ·rename_i e;subst e;rfl
   ·rfl
 have hlk:∀j,(u.getD j default).links=(t.getD j default).links:=by
  intro j
  rw[hat]
  split
  ·rename_i e;subst e;rfl
  ·split
   ·rename_i e;subst e;rfl
   ·rfl
 have hkeep:∀p e,e∈ag t p→¬(e.node.toNat=i)→e∈ag u p:=by
  intro p e he hne
  have hcut:p=d→e∈aI (ag t d) x.name:=fun hp=>by
   subst hp
   exact gR.2 ⟨he,fun hn=>hne (by rw[uI hF he hx hn,hxi];rfl)⟩
  unfold ag;rw[hat]
  split
  ·rename_i e2;subst e2
   refine gS.2 (.inr ?_)
   unfold E1;split
   ·rename_i e3;exact hcut e3
   ·exact he
  ·split
   ·rename_i e3;exact hcut e3
   ·exact he
 have hnew:(⟨r,(i:Int)⟩:Ent)∈ag u f:=by
  unfold ag;rw[hat,if_pos rfl];exact gS.2 (.inl rfl)
 have hav:∀j,¬Reach t i j→Reach t 0 j→Reach u 0 j:=fun j hj hr2=>
  oX (A:=fun q=>q=i) (fun p e he hne=>⟨e,hkeep p e he hne,rfl⟩) hr2 fun q hq hr3=>by subst hq;exact hj hr3
 have hrf:=hav f hno (hF.dir f hf hkf).1
 have hri:Reach u 0 i:=by
  have:=Reach.step (x:=⟨r,(i:Int)⟩) hrf hnew
  simpa using this
 have hin:∀j,Reach t i j→Reach u i j:=by
  intro j hr2
  induction hr2 with
  | refl=>exact .refl
  | @step p e hp he ih=>
    refine .step ih (hkeep p e he fun h=> ?_)
    exact hF.uB he (by rw[h];exact hp)
 have hreach:∀j,Reach t 0 j→Reach u 0 j:=fun j hr2=>by
  by_cases hj:Reach t i j
  ·exact hri.trans (hin j hj)
  ·exact hav j hj hr2
 refine lz ⟨hul,mA hul fun j hj=> ?_,by rw[hkj];exact hF.top,fun j hj hkj2=> ?_,fun j hj hkj1=> ?_,fun j hj hkj0=> ?_⟩ ?_
 ·rw[hat];split
  ·exact kO (hF.at hf) hkf hE'
  ·split
   ·exact kO (hF.at hd) hkd (jz hL _)
   ·exact hF.at hj
 ·rw[hkj]at hkj2
  obtain⟨h1,h2⟩:=hF.dir j hj hkj2
  exact⟨hreach j h1,by rw[hnm];exact h2⟩
 ·rw[hkj]at hkj1
  rw[hlk,hnm];exact hF.file j hj hkj1
 ·rw[hkj]at hkj0
  rw[hnm];exact hF.none j hj hkj0
 ·rw[←hu]
  exact dB (dB (eB hM) (by omega) (List.Sublist.refl _)) (by rw[aE];omega) (List.Sublist.refl _)
theorem tn {t u:Tre} {p:ByteArray} {k:Int} (hk:k=1∨k=2) (h:cZ t p k= .ok u):aY u=true:=by
 unfold cZ at h
 cases hq:aH t p with
 | error e=>rw[hq]at h;cases h
 | ok q=>
   obtain⟨d,s⟩:=q
   obtain⟨ld,P⟩:=dz hq
   rw[hq]at h
   dsimp only at h
   by_cases h0:0≤atI (ag t d) s
   ·rw[if_pos h0]at h;cases h
   by_cases h1:bE t<0
   ·rw[if_neg h0,if_pos h1]at h;cases h
   by_cases h2:10≤(ag t d).length
   ·rw[if_neg h0,if_neg h1,if_pos h2]at h;cases h
   rw[if_neg h0,if_neg h1,if_neg h2]at h
   cases h
   obtain⟨f1,f2,f3⟩:1≤bE t∧bE t<12∧ak t (bE t).toNat=0:=by
    rcases free_spec P.may with h | h
    ·omega
    ·exact h
   have:=FY P.may hk P.d12 P.kind (i:=(bE t).toNat) (by omega) f3 P.uG (by rw[jB P,decide_eq_false h0]) (by omega)
   rwa [show(((bE t).toNat:Nat):Int)=bE t by omega]at this
theorem yo {t u:Tre} {p:ByteArray} {held:List Bool} (h:dM t p held= .ok u):aY u=true:=by
 unfold dM at h
 cases hq:aH t p with
 | error e=>rw[hq]at h;cases h
 | ok q=>
   obtain⟨d,s⟩:=q
   obtain⟨ld,P⟩:=dz hq
   rw[hq]at h
   dsimp only at h
   by_cases h0:atI (ag t d) s<0
   ·rw[if_pos h0]at h;cases h
   by_cases h1:ak t (atI (ag t d) s).toNat=2
   ·rw[if_neg h0,if_pos h1]at h;cases h
   rw[if_neg h0,if_neg h1]at h
   cases h
   obtain⟨_,k1,k2,_,x,hx,hxn,hxi⟩:=eY P.may h0
   exact uJ P.may hx hxn (by omega) (fA (bP P.may) (by omega) h1)
theorem Aq {t u:Tre} {p:ByteArray} (h:ff t p= .ok u):aY u=true:=by
 unfold ff at h
 cases hq:aH t p with
 | error e=>rw[hq]at h;cases h
 | ok q=>
   obtain⟨d,s⟩:=q
   obtain⟨ld,P⟩:=dz hq
   rw[hq]at h
   dsimp only at h
   by_cases h0:atI (ag t d) s<0
   ·rw[if_pos h0]at h;cases h
   by_cases h1:ak t (atI (ag t d) s).toNat≠2
   ·rw[if_neg h0,if_pos h1]at h;cases h
   by_cases h2:0<(ag t (atI (ag t d) s).toNat).length
   ·rw[if_neg h0,if_neg h1,if_pos h2]at h;cases h
   rw[if_neg h0,if_neg h1,if_neg h2]at h
   cases h
   obtain⟨_,k1,k2,_,x,hx,hxn,hxi⟩:=eY P.may h0
   have h3:=uJ (held:= []) P.may hx hxn (i:=(atI (ag t d) s).toNat) (by omega) (List.eq_nil_of_length_eq_zero (by omega))
   have hne:=eG P.may h0
   have e2:cj (aJ t d (aI (ag t d) s)) (atI (ag t d) s).toNat []=(aJ t d (aI (ag t d) s)).set (atI (ag t d) s).toNat Nod.zero:=by
    unfold cj
    rw[if_neg]
    rintro⟨h,_⟩
    have h1:ak t (atI (ag t d) s).toNat=2:=Classical.byContradiction h1
    unfold ak at h h1
    rw[cK hne]at h;omega
   rwa [e2]at h3
theorem Ar {t u:Tre} {p q:ByteArray} (h:iC t p q= .ok u):aY u=true:=by
 unfold iC at h
 cases hf:b8 t p with
 | error e=>rw[hf]at h;cases h
 | ok i=>
   have hi:=gE hf
   have hM:aY t=true:=by unfold b8 at hf;split at hf;assumption;cases hf
   rw[hf]at h
   dsimp only at h
   by_cases hk:ak t i=2
   ·rw[if_pos hk]at h;cases h
   rw[if_neg hk]at h
   cases hr:aH t q with
   | error e=>rw[hr]at h;cases h
   | ok z=>
     obtain⟨d,s⟩:=z
     obtain⟨ld,P⟩:=dz hr
     rw[hr]at h
     dsimp only at h
     by_cases h0:0≤atI (ag t d) s
     ·rw[if_pos h0]at h;cases h
     by_cases h2:10≤(ag t d).length
     ·rw[if_neg h0,if_pos h2]at h;cases h
     rw[if_neg h0,if_neg h2]at h
     cases h
     have hk1:ak t i=1:=by
      have hF:=bP hM
      rcases fI (hF.at hi)with h | h | h
      ·exfalso
       unfold b8 at hf
       rw[if_pos hM]at hf
       split at hf
       ·cases hf
       ·rename_i l hl
        rcases gG l with rfl | ⟨m,n,rfl⟩
        ·cases hf
         have:=hF.top
         have h:ak t 0=0:=h
         omega
        ·obtain⟨p,_,hg⟩:=(qO t n m 0 i).1 hf
         obtain⟨_,e,he,_,h2⟩:=zo hg
         have:=(hF.ent he).2.2.2.2.2
         rw[h2]at this
         exact this h
      ·exact h
      ·exact absurd h hk
     exact Dy hM P.d12 P.kind hi hk1 P.uG (by rw[jB P,decide_eq_false h0]) (by omega)
def qT (n:Nod) (b:Bool):Nod:=if n.kind=1∧(0<n.links-1∨b=true)then { n with links:=n.links-1 } else Nod.zero
theorem tq {t:Tre} {i j:Nat} {held:List Bool} (hi:i<t.length):(cj t i held).getD j default=if j=i then qT (t.getD i default) (ct held i)else t.getD j default:=by
 have e:cj t i held=t.set i (qT (t.getD i default) (ct held i)):=by
  unfold cj qT ak
  by_cases h:(t.getD i default).kind=1∧(0<(t.getD i default).links-1∨ct held i=true)
  ·rw[if_pos h,if_pos h]
  ·rw[if_neg h,if_neg h]
 rw[e,dc hi]
theorem fM {t:Tre} {d j:Nat} {l:List Ent} (hd:d<t.length):(aJ t d l).getD j default=if j=d then { t.getD d default with az:=l } else t.getD j default:=dc hd
theorem wC {t u:Tre} (hl:t.length=u.length) (h:∀j,j<t.length→t.getD j default=u.getD j default):t=u:=by
 apply List.ext_getElem hl
 intro j h1 h2
 have:=h j h1
 rwa [aB h1,aB h2]at this
theorem DA (l:List Ent) (a b:ByteArray):aI (aI l a) b=aI (aI l b) a:=by
 unfold aI;rw[List.filter_filter,List.filter_filter]
 congr 1;funext e;exact Bool.and_comm _ _
structure Ren (t:Tre) (p q:ByteArray) (held:List Bool) (u:Tre) (d:Nat) (n:ByteArray) (ld:List ByteArray) (f:Nat) (r:ByteArray) (lf:List ByteArray) (i:Nat):Prop where
 P:Par t p ld d n
 Q:Par t q lf f r
 hi:atI (ag t d) n=i
 ne:atI (ag t f) r≠i
 out:eF t i f=false
 rep:0≤atI (ag t f) r→fy (t.getD i default) (t.getD (atI (ag t f) r).toNat default)=0
 room:(ag (bM t d n i f r (atI (ag t f) r) held) f).length<10
 eq:u=aJ (bM t d n i f r (atI (ag t f) r) held) f (bu (ag (bM t d n i f r (atI (ag t f) r) held) f) ⟨r,i⟩)
theorem Lh {t u:Tre} {p q:ByteArray} {held:List Bool} (h:cz t p q held= .ok u):(u=t∧∃ld d n lf f r,Par t p ld d n∧Par t q lf f r∧0≤atI (ag t d) n∧atI (ag t f) r=atI (ag t d) n)∨∃d n ld f r lf i,Ren t p q held u d n ld f r lf i:=by
 unfold cz at h
 cases hP:aH t p with
 | error e=>rw[hP]at h;cases h
 | ok z=>
   obtain⟨d,n⟩:=z
   obtain⟨ld,P⟩:=dz hP
   rw[hP]at h
   dsimp only at h
   by_cases h0:atI (ag t d) n<0
   ·rw[if_pos h0]at h;cases h
   rw[if_neg h0]at h
   cases hQ:aH t q with
   | error e=>rw[hQ]at h;cases h
   | ok z=>
     obtain⟨f,r⟩:=z
     obtain⟨lf,Q⟩:=dz hQ
     rw[hQ]at h
     dsimp only at h
     by_cases h1:atI (ag t f) r=atI (ag t d) n
     ·rw[if_pos h1]at h;cases h
      exact .inl ⟨rfl,ld,d,n,lf,f,r,P,Q,by omega,h1⟩
     rw[if_neg h1]at h
     obtain⟨i,hi⟩:∃i:Nat,atI (ag t d) n=i:=⟨(atI (ag t d) n).toNat,by omega⟩
     rw[hi]at h h1
     by_cases h2:eF t i f=true
     ·rw[if_pos h2]at h;cases h
     rw[if_neg h2]at h
     by_cases h3:0≤atI (ag t f) r∧fy (t.getD ((i:Int)).toNat default) (t.getD (atI (ag t f) r).toNat default)≠0
     ·rw[if_pos h3]at h;cases h
     rw[if_neg h3]at h
     rw[Int.toNat_natCast]at h h3
     by_cases h4:10≤(ag (bM t d n i f r (atI (ag t f) r) held) f).length
     ·rw[if_pos h4]at h;cases h
     rw[if_neg h4]at h
     cases h
     refine .inr ⟨d,n,ld,f,r,lf,i,P,Q,hi,h1,by simpa using h2,fun hk=> ?_,by omega,rfl⟩
     apply Classical.byContradiction
     intro hc
     exact h3 ⟨hk,hc⟩
section
variable {t u:Tre} {p q n r:ByteArray} {held:List Bool} {d f i:Nat} {ld lf:List ByteArray}
theorem Ren.ent (R:Ren t p q held u d n ld f r lf i):i≠0∧i<12∧ak t i≠0∧∃x∈ag t d,x.name=n∧x.node=i:=by
 obtain⟨_,k1,k2,k3,x,hx,hxn,hxi⟩:=eY R.P.may (d:=d) (s:=n) (by rw[R.hi];omega)
 rw[R.hi]at k1 k2 k3 hxi
 exact⟨by omega,by omega,by rwa [Int.toNat_natCast]at k3,x,hx,hxn,hxi⟩
theorem Ren.no (R:Ren t p q held u d n ld f r lf i):¬Reach t i f:=by
 intro hr
 obtain⟨_,hi,hk,_⟩:=R.ent
 have h:=kI R.P.may hi R.Q.d12
 rw[R.out,fH.2 hr,Bool.and_true]at h
 have hk2:ak t i≠2:=of_decide_eq_false h.symm
 have hF:=bP R.P.may
 have:=qL (fA hF hi hk2) hr
 subst this
 exact hk2 R.Q.kind
theorem Ren.old (R:Ren t p q held u d n ld f r lf i) (hk:0≤atI (ag t f) r):∃k:Nat,atI (ag t f) r=k∧k≠0∧k<12∧k≠f∧k≠d∧k≠i∧ag t k= []∧(t.getD k default).kind=(t.getD i default).kind∧(ak t k=1∨ak t k=2)∧∃y∈ag t f,y.name=r∧y.node=k:=by
 have hF:=bP R.P.may
 obtain⟨_,k1,k2,k3,y,hy,hyn,hyi⟩:=eY R.Q.may (d:=f) (s:=r) (by omega)
 obtain⟨hi0,hi,hik,x,hx,hxn,hxi⟩:=R.ent
 have hrep:=R.rep hk
 have hne:=R.ne
 have hkf:=eG R.Q.may (d:=f) (s:=r) (by omega)
 obtain⟨k,hk'⟩:∃k:Nat,atI (ag t f) r=k:=⟨(atI (ag t f) r).toNat,by omega⟩
 rw[hk']at k1 k2 k3 hyi hrep hne hkf
 rw[Int.toNat_natCast]at k3 hrep hkf
 have hkind:(t.getD k default).kind=(t.getD i default).kind∧(t.getD k default).az= []:=by
  unfold fy at hrep
  have a1:=fI (hF.at (i:=k) (by omega))
  have a2:=fI (hF.at hi)
  have hk0:(t.getD k default).kind≠0:=k3
  have hi0:(t.getD i default).kind≠0:=hik
  by_cases b1:(t.getD i default).kind=2∧(t.getD k default).kind≠2
  ·rw[if_pos b1]at hrep;cases hrep
  by_cases b2:(t.getD i default).kind≠2∧(t.getD k default).kind=2
  ·rw[if_neg b1,if_pos b2]at hrep;cases hrep
  by_cases b3:0<(t.getD k default).az.length
  ·rw[if_neg b1,if_neg b2,if_pos b3]at hrep;cases hrep
  exact⟨by omega,List.eq_nil_of_length_eq_zero (by omega)⟩
 refine⟨k,hk',by omega,by omega,hkf,fun e=> ?_,by omega,hkind.2,hkind.1, ?_,y,hy,hyn,hyi⟩
 ·subst e
  unfold ag at hx
  rw[hkind.2]at hx;cases hx
 ·rcases fI (hF.at (i:=k) (by omega))with h | h | h
  ·exact absurd h k3
  ·exact .inl h
  ·exact .inr h
def rX (t:Tre) (f:Nat) (r:ByteArray) (k:Nat) (held:List Bool):Tre:=cj (aJ t f (aI (ag t f) r)) k held
theorem Ren.rem (R:Ren t p q held u d n ld f r lf i) {k:Nat} (hk:atI (ag t f) r=k):aY (rX t f r k held)=true∧bM t d n i f r k held=aJ (rX t f r k held) d (aI (ag (rX t f r k held) d) n)∧(∀j,(rX t f r k held).getD j default=if j=k then qT (t.getD k default) (ct held k)else if j=f then { t.getD f default with az:=aI (ag t f) r } else t.getD j default):=by
 obtain⟨k',hk',hk0,hk12,hkf,hkd,hki,hemp,_,_,y,hy,hyn,hyi⟩:=R.old (by omega)
 have:k' =k:=by omega
 subst this
 have h12:=(bq R.P.may).1
 have hf:=R.Q.d12;have hd:=R.P.d12
 have hget:∀j,(rX t f r k' held).getD j default=if j=k' then qT (t.getD k' default) (ct held k')else if j=f then { t.getD f default with az:=aI (ag t f) r } else t.getD j default:=by
  intro j
  unfold rX
  rw[tq (by rw[aE];omega),fM (by omega),if_neg hkf,fM (by omega)]
 have hents:∀j,ag (rX t f r k' held) j=if j=f then aI (ag t f) r else if j=k' then []else ag t j:=by
  intro j
  unfold ag;rw[hget]
  by_cases h1:j=k'
  ·subst h1
   rw[if_pos rfl,if_neg hkf,if_pos rfl]
   unfold qT;split
   ·exact hemp
   ·rfl
  ·rw[if_neg h1]
   by_cases h2:j=f
   ·rw[if_pos h2,if_pos h2]
   ·rw[if_neg h2,if_neg h2,if_neg h1]
 have hlen:(rX t f r k' held).length=12:=by unfold rX;rw[oo,aE,h12]
 refine⟨uJ R.P.may hy hyn hyi hemp, ?_,hget⟩
 unfold bM
 rw[if_pos (by omega),Int.toNat_natCast]
 refine wC (by rw[oo,aE,aE,aE,hlen,h12]) fun j _=> ?_
 rw[tq (by rw[aE,aE];omega),fM (by rw[aE];omega),if_neg hkf,fM (by omega),if_neg hkd,fM (by rw[aE];omega),fM (by omega),fM (by omega),fM (by omega),hget,hget,hents]
 by_cases h1:j=k'
 ·subst h1;rw[if_pos rfl,if_neg hkd,if_pos rfl]
 rw[if_neg h1,if_neg h1]
 by_cases h2:j=f
 ·subst h2
  rw[if_pos rfl,if_pos rfl]
  by_cases h3:j=d
  ·subst h3
   rw[if_pos rfl,if_pos rfl,if_neg h1,if_pos rfl,if_pos rfl,cP (by omega),if_pos rfl,DA]
  ·rw[if_neg h3,if_neg h3,cP (by omega),if_neg h3]
 ·rw[if_neg h2,if_neg h2]
  by_cases h3:j=d
  ·subst h3
   rw[if_pos rfl,if_pos rfl,if_neg h1,if_neg h2,if_neg h2,if_neg h1]
  ·rw[if_neg h3,if_neg h3]
theorem Ren.may (R:Ren t p q held u d n ld f r lf i):aY u=true:=by
 obtain⟨hi0,hi,hik,x,hx,hxn,hxi⟩:=R.ent
 have hF:=bP R.P.may
 have h12:=hF.len
 have hf:=R.Q.d12;have hd:=R.P.d12
 have hroom:=R.room
 rw[R.eq]
 by_cases hk:0≤atI (ag t f) r
 ·obtain⟨k,hk',hk0,hk12,hkf,hkd,hki,hemp,_,_,y,hy,hyn,hyi⟩:=R.old hk
  obtain⟨hM1,hmv,hget⟩:=R.rem hk'
  rw[hk']at hroom ⊢
  rw[hmv]at hroom ⊢
  generalize hT:rX t f r k held=t1 at*
  have hF1:=bP hM1
  have hents1:∀j,ag t1 j=if j=f then aI (ag t f) r else if j=k then []else ag t j:=by
   intro j
   unfold ag;rw[hget]
   by_cases h1:j=k
   ·subst h1
    rw[if_pos rfl,if_neg hkf,if_pos rfl]
    unfold qT;split
    ·exact hemp
    ·rfl
   ·rw[if_neg h1]
    by_cases h2:j=f
    ·rw[if_pos h2,if_pos h2]
    ·rw[if_neg h2,if_neg h2,if_neg h1]
  have hE1:ag (aJ t1 d (aI (ag t1 d) n)) f=E1 t1 d n f:=by rw[cP (by rw[hF1.len];omega)];rfl
  rw[hE1]at hroom ⊢
  have hx1:x∈ag t1 d:=by
   rw[hents1]
   by_cases h1:d=f
   ·subst h1
    rw[if_pos rfl]
    refine gR.2 ⟨hx,fun e=>hki ?_⟩
    have:=uI hF hx hy (by rw[e,hyn])
    rw[this,hyi]at hxi;omega
   ·rw[if_neg h1,if_neg (fun e=>hkd e.symm)];exact hx
  refine wB hM1 hx1 hxn hxi hf ?_ R.Q.uG ?_ ?_ hroom
  ·unfold ak;rw[hget,if_neg (fun e=>hkf e.symm),if_pos rfl];exact R.Q.kind
  ·intro hr
   refine R.no (gp (fun p e he=>⟨e, ?_,rfl⟩) hr)
   rw[hents1]at he
   by_cases h1:p=f
   ·subst h1;rw[if_pos rfl]at he;exact(gR.1 he).1
   ·rw[if_neg h1]at he
    by_cases h2:p=k
    ·rw[if_pos h2]at he;cases he
    ·rw[if_neg h2]at he;exact he
  ·unfold E1
   by_cases h1:f=d
   ·rw[if_pos h1,hents1,if_pos h1.symm]
    refine fu.2 fun e he=> ?_
    have:=(gR.1 he).1
    exact(gR.1 this).2
   ·rw[if_neg h1,hents1,if_pos rfl];exact uF _ _
 ·have hmv:bM t d n i f r (atI (ag t f) r) held=aJ t d (aI (ag t d) n):=by unfold bM;rw[if_neg hk]
  rw[hmv]at hroom ⊢
  have hE1:ag (aJ t d (aI (ag t d) n)) f=E1 t d n f:=by rw[cP (by omega)];rfl
  rw[hE1]at hroom ⊢
  have hne:=R.ne
  exact wB R.P.may hx hxn hxi hf R.Q.kind R.Q.uG R.no (by rw[ym R.P R.Q (by rw[R.hi];exact hne),decide_eq_false hk]) hroom
end
theorem yp {t u:Tre} {p q:ByteArray} {held:List Bool} (h:cz t p q held= .ok u):aY u=true:=by
 rcases Lh h with ⟨rfl,_,_,_,_,_,_,P,_⟩ | ⟨d,n,ld,f,r,lf,i,R⟩
 ·exact P.may
 ·exact R.may
end Go.Proofs.YtoogangnldppaaaGreatDoor
