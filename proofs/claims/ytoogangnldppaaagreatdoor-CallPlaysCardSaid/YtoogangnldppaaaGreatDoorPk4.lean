/- Texts joined: DoneLaw, DoneOk, WriteOk, TruncOk, ObT, NewHOk, Mv, HandOk, Hand2Ok, ModLaw, Tr6Ok, Tr5Law, ModOk, Mod2Ok, Mod3Ok, Mod4Ok, Mod5Law, Mod5Ok, Mod6Ok, KeepLaw, Ref6Ok, Ref7Ok, Ref8Ok, Ref9Ok, RefAOk, RefBOk. -/
import Derived.Test.YtoogangnldppaaaGreatDoorPk3
import Derived.Test.YtoogangnldppaaaGreatDoorMSoundC
import Derived.Test.YtoogangnldppaaaGreatDoorPk2
set_option linter.unusedVariables false
/- Pages that were written: a tree that may be stays one. Plain laws. -/
namespace Go.Proofs.YtoogangnldppaaaGreatDoor
open Go
theorem jV {t:Tre} (hM:aY t=true) {k:Nat} (hk:k<12) (hkk:ak t k=1) {n:Nod} (h1:n.kind=1) (h2:n.links=(t.getD k default).links) (hm:bA n=true) (ha:b6 (bC (t.set k n))=true):aY (t.set k n)=true:=by
 have hF:=bP hM
 have h12:=hF.len
 have hemp:=fA hF hk (by omega)
 have hfi:=hF.file k hk hkk
 have hne:n.az= []:=by
  unfold bA at hm
  rw[if_neg (by omega),if_pos h1]at hm
  unfold fG at hm
  simp only [Bool.and_eq_true,decide_eq_true_eq]at hm
  exact List.length_eq_zero_iff.1 hm.1.2
 have hat:∀j,(t.set k n).getD j default=if j=k then n else t.getD j default:=fun j=>dc (by omega)
 have hkj:∀j,ak (t.set k n) j=ak t j:=by
  intro j
  unfold ak;rw[hat]
  split
  ·rename_i e;subst e;rw[h1];exact hkk.symm
  ·rfl
 have hents:∀j,ag (t.set k n) j=ag t j:=by
  intro j
  unfold ag;rw[hat]
  split
  ·rename_i e;subst e;rw[hne];exact hemp.symm
  ·rfl
 have hnm:∀x:Int,aL (t.set k n) x=aL t x:=by
  intro x
  have h1:=dA (x:=x) (t:=t) (k:=k) (n:=n) (by omega)
  rw[hemp,hne]at h1
  omega
 have hul:(t.set k n).length=12:=by simp [h12]
 refine lz ⟨hul,mA hul fun j hj=> ?_,by rw[hkj];exact hF.top,fun j hj hkj2=> ?_,fun j hj hkj1=> ?_,fun j hj hkj0=> ?_⟩ ha
 ·rw[hat];split
  ·exact hm
  ·exact hF.at hj
 ·rw[hkj]at hkj2
  obtain⟨h1,h2⟩:=hF.dir j hj hkj2
  exact⟨gp (fun p e he=>⟨e,by rw[hents];exact he,rfl⟩) h1,by rw[hnm];exact h2⟩
 ·rw[hkj]at hkj1
  rw[hnm,hat]
  split
  ·rename_i e;subst e;rw[h2];exact hF.file j hj hkj1
  ·exact hF.file j hj hkj1
 ·rw[hkj]at hkj0
  rw[hnm];exact hF.none j hj hkj0
theorem mB {f:Int→Bool} :∀ {l:List Int} {i:Nat} {s:Int},(l.filter f).Nodup→s∉l→((l.set i s).filter f).Nodup
 | [],i,s,h,_=>by simp
 | x::l,0,s,h,hs=>by
   have hl:(l.filter f).Nodup:=by
    rw[List.filter_cons]at h
    split at h
    ·exact(List.nodup_cons.1 h).2
    ·exact h
   rw[List.set_cons_zero,List.filter_cons]
   split
   ·exact List.nodup_cons.2 ⟨fun h=>hs (List.mem_cons_of_mem _ (List.mem_filter.1 h).1),hl⟩
   ·exact hl
 | x::l,i+1,s,h,hs=>by
   rw[List.mem_cons,not_or]at hs
   rw[List.set_cons_succ,List.filter_cons]
   rw[List.filter_cons]at h
   split at h
   ·rename_i hx
    rw[if_pos hx]
    have h:=List.nodup_cons.1 h
    refine List.nodup_cons.2 ⟨fun hm=> ?_,mB h.2 hs.2⟩
    have hm:=List.mem_filter.1 hm
    rcases List.mem_or_eq_of_mem_set hm.1 with h3 | h3
    ·exact h.1 (List.mem_filter.2 ⟨h3,hx⟩)
    ·exact hs.1 h3.symm
   ·rename_i hx
    rw[if_neg hx]
    exact mB h hs.2
def gT (t:Tre) (k:Nat) (p:Nat) (s:Int):Tre:=t.set k { t.getD k default with an:=(t.getD k default).an.set p s }
theorem qU:∀ {t:Tre} {k p:Nat} {s:Int},k<t.length→p<(t.getD k default).an.length→∃o,bC (gT t k p s)=(bC t).set o s
 | [],_,_,_,h,_=>absurd h (by simp)
 | m::t,0,p,s,_,hp=>by
   refine⟨p, ?_⟩
   have hp:p<m.an.length:=by simpa using hp
   show m.an.set p s++bC t=(m.an++bC t).set p s
   rw[List.set_append_left _ _ hp]
 | m::t,k+1,p,s,h,hp=>by
   obtain⟨o,ho⟩:=qU (t:=t) (k:=k) (p:=p) (s:=s) (by simpa using h) (by simpa using hp)
   refine⟨m.an.length+o, ?_⟩
   have e:gT (m::t) (k+1) p s=m::gT t k p s:=by simp [gT]
   rw[e]
   show m.an++bC (gT t k p s)=(m.an++bC t).set (m.an.length+o) s
   rw[ho,List.set_append_right _ _ (by omega)]
   congr 2;omega
theorem wD (t:Tre) (k p:Nat) (s:Int):(gT t k p s).length=t.length:=by simp [gT]
theorem uK {t:Tre} {k p:Nat} {s:Int} (hk:k<t.length):(gT t k p s).getD k default= { t.getD k default with an:=(t.getD k default).an.set p s } :=cq hk
theorem bN {n:Nod} (h:bA n=true) (hk:n.kind=1):0≤n.links∧n.links≤120∧0≤n.size∧n.size≤80∧n.an.length=5∧n.az= []∧∀i,i<5→0≤n.an.getD i 0∧n.an.getD i 0≤1099511627776∧(n.size≤(i:Int)*16→n.an.getD i 0=0):=by
 unfold bA at h
 rw[if_neg (by omega),if_pos hk]at h
 unfold fG within at h
 simp only [Bool.and_eq_true,decide_eq_true_eq,List.all_eq_true,List.mem_range]at h
 obtain⟨⟨⟨⟨h1,h2⟩,h3⟩,h4⟩,h5⟩:=h
 refine⟨h1.1,h1.2,h2.1,h2.2,h3,List.length_eq_zero_iff.1 h4,fun i hi=> ?_⟩
 have:=h5 i (by omega)
 unfold okS within at this
 simp only [Bool.and_eq_true,decide_eq_true_eq,Bool.not_eq_true',Bool.and_eq_false_iff,decide_eq_false_iff_not,Bool.not_eq_false']at this
 refine⟨this.1.1,this.1.2,fun hz=> ?_⟩
 rcases this.2 with h | h
 ·omega
 ·exact h
theorem kP {n:Nod} (hk:n.kind=1) (h:0≤n.links∧n.links≤120∧0≤n.size∧n.size≤80∧n.an.length=5∧n.az= []∧∀i,i<5→0≤n.an.getD i 0∧n.an.getD i 0≤1099511627776∧(n.size≤(i:Int)*16→n.an.getD i 0=0)):bA n=true:=by
 obtain⟨h1,h2,h3,h4,h5,h6,h7⟩:=h
 unfold bA
 rw[if_neg (by omega),if_pos hk]
 unfold fG within
 simp only [Bool.and_eq_true,decide_eq_true_eq,List.all_eq_true,List.mem_range]
 refine⟨⟨⟨⟨⟨h1,h2⟩,h3,h4⟩,h5⟩,by rw[h6];rfl⟩,fun i hi=> ?_⟩
 obtain⟨a,b,c⟩:=h7 i (by omega)
 unfold okS within
 simp only [Bool.and_eq_true,decide_eq_true_eq,Bool.not_eq_true',Bool.and_eq_false_iff,decide_eq_false_iff_not,Bool.not_eq_false']
 refine⟨⟨a,b⟩, ?_⟩
 by_cases hz:n.size≤(i:Int)*16
 ·exact .inr (c hz)
 ·exact .inl hz
theorem tr {l:List Int} {p i:Nat} {s:Int} (hp:p<l.length):(l.set p s).getD i 0=if i=p then s else l.getD i 0:=by
 by_cases h:i=p
 ·subst h;rw[if_pos rfl,bY (by simpa using hp),List.getElem_set_self]
 ·rw[if_neg h,List.getD_eq_getElem?_getD,List.getElem?_set_ne (fun e=>h e.symm), ←List.getD_eq_getElem?_getD]
theorem DB {t:Tre} (hM:aY t=true) {k p:Nat} {s:Int} (hk:k<12) (hkk:ak t k=1) (hp:p<5) (hps:(p:Int)*16<(t.getD k default).size) (h0:0≤s) (h1:s≤1099511627776) (hnew:s∉bC t):aY (gT t k p s)=true:=by
 have hF:=bP hM
 have h12:=hF.len
 obtain⟨f1,f2,f3,f4,f5,f6,f7⟩:=bN (hF.at hk) hkk
 refine jV hM hk hkk hkk rfl (kP hkk ⟨f1,f2,f3,f4, ?_,f6,fun i hi=> ?_⟩) ?_
 ·show((t.getD k default).an.set p s).length=5
  rw[List.length_set];exact f5
 ·show 0≤((t.getD k default).an.set p s).getD i 0∧((t.getD k default).an.set p s).getD i 0≤_∧((t.getD k default).size≤_→((t.getD k default).an.set p s).getD i 0=0)
  rw[tr (by omega)]
  split
  ·rename_i e;subst e;exact⟨h0,h1,fun h=>by omega⟩
  ·exact f7 i hi
 ·obtain⟨o,ho⟩:=qU (t:=t) (k:=k) (p:=p) (s:=s) (by omega) (by omega)
  show b6 (bC (gT t k p s))=true
  rw[ho]
  have:=eB hM
  unfold b6 at this ⊢
  exact decide_eq_true (mB (of_decide_eq_true this) hnew)
def ck (k:Nat):Tre→List Tod→List Int→Tre
 | t,x::l,s::ss=>ck k (gT t k x.aS.toNat s) l ss
 | t,_,_=>t
theorem mC (k:Nat):∀(t:Tre) (l:List Tod) (ss:List Int) (x:Tod) (s:Int),l.length=ss.length→ck k t (l++ [x]) (ss++ [s])=gT (ck k t l ss) k x.aS.toNat s
 | t,[],[],x,s,_=>rfl
 | t,y::l,r::ss,x,s,h=>mC k (gT t k y.aS.toNat r) l ss x s (by simpa using h)
 | t,[],_::_,_,_,h=>by simp at h
 | t,_::_,[],_,_,h=>by simp at h
theorem dU (k:Nat):∀(t:Tre) (l:List Tod) (ss:List Int),(ck k t l ss).length=t.length
 | t,x::l,s::ss=>by rw[ck,dU,wD]
 | t,[],_=>by unfold ck;rfl
 | t,_::_,[]=>by unfold ck;rfl
theorem nD (k:Nat):∀(t:Tre) (l:List Tod) (ss:List Int),k<t.length→∃q,q.length=(t.getD k default).an.length∧(ck k t l ss).getD k default= { t.getD k default with an:=q }
 | t,x::l,s::ss,h=>by
   obtain⟨q,h1,h2⟩:=nD k (gT t k x.aS.toNat s) l ss (by rw[wD];exact h)
   rw[uK h]at h1 h2
   exact⟨q,by rw[h1];simp,h2⟩
 | t,[],_,_=>⟨_,rfl,by unfold ck;rfl⟩
 | t,_::_,[],_=>⟨_,rfl,by unfold ck;rfl⟩
theorem wE (k:Nat) {j:Nat} (hj:j≠k):∀(t:Tre) (l:List Tod) (ss:List Int),(ck k t l ss).getD j default=t.getD j default
 | t,x::l,s::ss=>by
   rw[ck,wE k hj]
   unfold gT
   rw[List.getD_eq_getElem?_getD,List.getElem?_set_ne (fun e=>hj e.symm), ←List.getD_eq_getElem?_getD]
 | t,[],_=>by unfold ck;rfl
 | t,_::_,[]=>by unfold ck;rfl
def upS:Int→Nat→List Int
 | _,0=> []
 | q,n+1=>(q+1)::upS (q+1) n
theorem jW:∀(q:Int) (n:Nat),(upS q n).length=n
 | _,0=>rfl
 | q,n+1=>by simp [upS,jW (q+1) n]
theorem nE:∀(q:Int) (n:Nat),upS q (n+1)=upS q n++ [q+n+1]
 | q,0=>by simp [upS]
 | q,n+1=>by
   rw[upS,nE (q+1) n,upS,List.cons_append]
   congr 3
   push_cast
   omega
theorem zz:∀ {q s:Int} {n:Nat},s∈upS q n→q<s∧s≤q+n
 | q,s,0,h=>by cases h
 | q,s,n+1,h=>by
   rcases List.mem_cons.1 h with h | h
   ·omega
   ·have:=zz h;omega
def rY (t:Tre) (q:Int):Prop:=∀s∈bC t,s≤q
theorem qV (k:Nat):∀(t:Tre) (l:List Tod) (q:Int),aY t=true→k<12→ak t k=1→rY t q→0≤q→q+l.length≤1099511627776→(∀x∈l,0≤x.aS∧x.aS<5∧x.aS*16<(t.getD k default).size)→
  aY (ck k t l (upS q l.length))=true∧rY (ck k t l (upS q l.length)) (q+l.length)
 | t,[],q,hM,_,_,ht,_,_,_=>⟨hM,fun s hs=>by have:=ht s hs;simp;omega⟩
 | t,x::l,q,hM,hk,hkk,ht,h0,h1,hx=>by
   have h12:=(bP hM).len
   have hx0:=hx x (by simp)
   rw[List.length_cons]at h1 ⊢
   have f5:=(bN ((bP hM).at hk) hkk).2.2.2.2.1
   have hM1:=DB hM (p:=x.aS.toNat) (s:=q+1) hk hkk (by omega) (by omega) (by omega) (by omega) (fun h=>by have:=ht _ h;omega)
   obtain⟨o,ho⟩:=qU (t:=t) (k:=k) (p:=x.aS.toNat) (s:=q+1) (by omega) (by omega)
   have hT1:rY (gT t k x.aS.toNat (q+1)) (q+1):=fun s hs=>by
    rw[ho]at hs
    rcases List.mem_or_eq_of_mem_set hs with h | h
    ·have:=ht s h;omega
    ·omega
   have hat:=uK (t:=t) (k:=k) (p:=x.aS.toNat) (s:=q+1) (by omega)
   have hk1:ak (gT t k x.aS.toNat (q+1)) k=1:=by unfold ak;rw[hat];exact hkk
   obtain⟨a,b⟩:=qV k (gT t k x.aS.toNat (q+1)) l (q+1) hM1 hk hk1 hT1 (by omega) (by push_cast at h1 ⊢;omega) (fun y hy=>by rw[hat];exact hx y (by simp [hy]))
   refine⟨a, ?_⟩
   show rY (ck k (gT t k x.aS.toNat (q+1)) l (upS (q+1) l.length)) _
   have e:q+((l.length+1:Nat):Int)=q+1+l.length:=by push_cast;omega
   rw[e];exact b
theorem dR.mono {V V' V2:View} {x y:Sl} {k:Nat} {t:Tre} {cs ds:List Value} (h:dR V V' x y k t cs ds) (hV:V'.Le V2):dR V V2 x y k t cs ds:=
 ⟨h.buf.mono hV,h.row.mono (aN hV x),h.rep.mono (aN (aN hV x) y),h.ints,h.le.trans (aN (aN hV x) y)⟩
theorem dR.yn {V V' :View} {x y:Sl} {k:Nat} {t:Tre} {cs ds:List Value} (h:dR V V' x y k t cs ds):y.n=(t.getD k default).an.length:=
 h.row.n_eq (α:=Int) (W:=V) h.ints.rep
theorem dR.xn {V V' :View} {x y:Sl} {k:Nat} {t:Tre} {cs ds:List Value} (h:dR V V' x y k t cs ds):x.n=t.length:=by
 have:=h.buf.n_eq (α:=mo) h.rep
 rw[cJ]at this;exact this
theorem cg {t:Tre} (h:aY t=true):t.length≤1000∧∀n∈t,fJ n:=by
 obtain⟨h12,hall,_⟩:=bq h
 exact⟨by omega,fun n hn=>jP (hall n hn)⟩
theorem eI {α:Type} [Inhabited α] {l:List α} {j:Nat} (h:j<l.length):l.take (j+1)=l.take j++ [l.getD j default]:=by
 rw[List.take_add_one,List.getElem?_eq_getElem h,aB h];rfl
theorem yq {l:List Int} {j:Nat} (h:j<l.length):l.take (j+1)=l.take j++ [l.getD j 0]:=by
 rw[List.take_add_one,List.getElem?_eq_getElem h,bY h];rfl
section
variable {s y z:Sl} {t:Tre} {l:List Tod} {ss:List Int} {k:Nat} {V:View}
structure jX (t:Tre) (l:List Tod) (ss:List Int) (k:Nat):Prop where
 may:aY t=true
 k12:k<12
 len:l.length=ss.length
 todo:∀x∈l,x.node=k∧0≤x.aS∧x.aS<5∧ak t k=1
 seq:∀q∈ss,1≤q∧q≤1099511627776
 out:aY (ck k t l ss)=true
theorem jX.at {t:Tre} {l:List Tod} {ss:List Int} {k:Nat} (h:jX t l ss k) {j:Nat} (hj:j<l.length):
  bL t (l.getD j default).node=true∧(l.getD j default).node=k∧0≤(l.getD j default).aS∧(l.getD j default).aS<5∧1≤ss.getD j 0∧ss.getD j 0≤1099511627776∧((ck k t (l.take j) (ss.take j)).getD k default).an.length=5∧
  ck k t (l.take (j+1)) (ss.take (j+1))=gT (ck k t (l.take j) (ss.take j)) k (l.getD j default).aS.toNat (ss.getD j 0):=by
 have hF:=bP h.may
 have h12:=hF.len
 have hl:=h.len
 have hm:l.getD j default∈l:=by rw[aB hj];exact List.getElem_mem _
 obtain⟨h1,h2,h3,h4⟩:=h.todo _ hm
 obtain⟨h5,h6⟩:=h.seq (ss.getD j 0) (by rw[bY (by omega)];exact List.getElem_mem _)
 obtain⟨q,q1,q2⟩:=nD k t (l.take j) (ss.take j) (by rw[h12];exact h.k12)
 have f5:=(bN (hF.at h.k12) h4).2.2.2.2.1
 refine⟨?_,h1,h2,h3,h5,h6,by rw[q2];show q.length=5;rw[q1];exact f5, ?_⟩
 ·unfold bL
  rw[h.may,Bool.true_and,h1]
  exact decide_eq_true ⟨by omega,by have:=h.k12;omega,by simpa using h4⟩
 ·rw[eI hj,yq (by omega),mC _ _ _ _ _ _ (by rw[List.length_take,List.length_take];omega)]
theorem wF (h:SlR V s t) (hl:SlR V y l) (hss:SlR V z ss) (hp:jX t l ss k):af Tryz.prog 37 ⟨[aZ s,.slice y.a y.n y.c,.slice z.a z.n z.c]⟩ V fun r V' =>∃x:Sl,r= .tuple ⟨[aZ x,.int .i64 0]⟩∧SlR V' x (ck k t l ss)∧V.Le V' :=by
 refine L4 ?_
 unfold GH
 have hyn:=hl.n;have hzn:=hss.n;have hlen:=hp.len
 have h12:=(bP hp.may).len
 have hk12:=hp.k12
 have hylim:=hl.lim
 refine fun _ _=>(iI h).mono ?_
 rintro r V1 ⟨rfl,hV1⟩
 rw[hp.may]
 refine⟨_,rfl,aa (fun hb=>absurd hb (by rw[decide_eq_true (show(y.n:Int)=z.n by omega)];decide)) (fun _=> ?_)⟩
 refine(wm (k:=k) (by omega) (h.mono hV1) (cg hp.may)).mono ?_
 rintro r V2 ⟨x,w,cs,ds,rfl,hX⟩
 refine⟨x,rfl,fun _=> ?_⟩
 refine bh (k:= .int .i64) (fun(i:Int) V3=>∃(j:Nat) (ds:List Value),i=j∧j≤l.length∧dR V1 V3 x w k (ck k t (l.take j) (ss.take j)) cs ds) (fun(i:Int) _=>l.length-i.toNat) ⟨0,ds,rfl,by omega,by unfold ck;exact hX⟩ ?_
 rintro(i:Int) V3 ⟨j,ds,rfl,hj,hX⟩
 have hV3:=hV1.trans hX.vle
 refine aa (fun hlt=> ?_) (fun hge=> ?_)
 ·have hlt:j<l.length:=by have:=of_decide_eq_true hlt;omega
  obtain⟨hfq,hnode,hp0,hp5,hs1,hs2,hq5,hstep⟩:=hp.at hlt
  obtain⟨ad,yd,ha,hc,hT⟩:=(hl.mono hV3).vR hlt
  refine⟨by omega,by omega,ad,ha,_,_,_,_,_,_,hc,fun _=> ?_⟩
  refine ai (fun q V4=>q.1=false∧V3.Le V4) ((k9 (h.mono hV3)).mono ?_) ?_
  ·rintro r V4 ⟨rfl,hV4⟩
   rw[hfq]
   obtain⟨ad2,ha2,hc2,_⟩:=(hss.mono (hV3.trans hV4)).fD (i:=j) (by omega)
   refine⟨_,rfl,aa (fun hb=>absurd hb ?_) (fun _=>⟨by omega,by omega,ad2,ha2,_,hc2,aa (fun hb=>absurd hb ?_) (fun _=>⟨by omega,by omega,ad2,ha2,_,hc2, ?_,hV4⟩)⟩)⟩
   ·rw[decide_eq_false (by omega),decide_eq_false (by omega)];decide
   ·rw[decide_eq_false (by omega)];decide
   ·exact decide_eq_false (by omega)
  rintro⟨q,⟨⟩⟩ V4 ⟨h1,hV4⟩
  have h1:q=false:=h1
  have hV4:V3.Le V4:=hV4
  subst h1
  dsimp only [unc]
  have hX4:=hX.mono hV4
  obtain⟨ad2,ha2,hc2,_⟩:=(hss.mono (hV3.trans hV4)).fD (i:=j) (by omega)
  have hxn:=hX4.xn
  rw[dU]at hxn
  have hyn4:=hX4.yn
  obtain⟨ad3,ha3,hc3⟩:=hX4.cell (by rw[dU];omega)
  obtain⟨ad4,ds',ha4,hset,hX5⟩:=hX4.put (by rw[dU];omega) (i:=(l.getD j default).aS.toNat) (v:=ss.getD j 0) (by omega) (au (by omega) (by omega))
  rw[show(l.getD j default).node=(k:Int)from hnode]
  refine aa (fun h=>absurd h (by decide)) (fun _=>⟨trivial,V4,View.Le.refl _,by omega,by omega,ad3,ha3,w,hc3,by omega,by omega,ad2,ha2,_,hc2,hp0,by omega,ad4,ha4,hset,au (by omega) (by omega),⟨j+1,ds',by omega,by omega, ?_⟩,by omega⟩)
  rw[hstep]
  exact hX5
 ·have hge:j=l.length:=by have:=of_decide_eq_false hge;omega
  subst hge
  rw[List.take_of_length_le (Nat.le_refl _),List.take_of_length_le (by omega)]at hX
  have hR:=hX.slR (by rw[dU];omega)
  refine(iI hR).mono ?_
  rintro r V4 ⟨rfl,hV4⟩
  rw[hp.out]
  exact⟨_,rfl,aa (fun h=>absurd h (by decide)) (fun _=>⟨x,rfl,hR.mono hV4,hV3.trans hV4⟩)⟩
theorem yt (h:SlR V s t) (hl:SlR V y l) (hss:SlR V z ss) (hp:jX t l ss k):af Tryz.prog 139 ⟨[aZ s,.slice y.a y.n y.c,.slice z.a z.n z.c]⟩ V fun r V' =>∃x:Sl,r= .tuple ⟨[aZ x,.int .i64 0]⟩∧SlR V' x (ck k t l ss)∧V.Le V' :=by
 refine Kn ?_
 unfold B9
 have hyn:=hl.n;have hzn:=hss.n;have hlen:=hp.len
 have h12:=(bP hp.may).len
 have hk12:=hp.k12
 have hylim:=hl.lim
 refine fun _ _=>(dK h).mono ?_
 rintro r V1 ⟨rfl,hV1⟩
 rw[hp.may]
 refine⟨_,rfl,aa (fun hb=>absurd hb (by rw[decide_eq_true (show(z.n:Int)=y.n by omega)];decide)) (fun _=> ?_)⟩
 refine(oW (k:=k) (by omega) (h.mono hV1) (cg hp.may)).mono ?_
 rintro r V2 ⟨x,w,cs,ds,rfl,hX⟩
 refine⟨x,rfl,fun _=> ?_⟩
 refine bh (k:= .int .i64) (fun(i:Int) V3=>∃(j:Nat) (ds:List Value),i=j∧j≤l.length∧dR V1 V3 x w k (ck k t (l.take j) (ss.take j)) cs ds) (fun(i:Int) _=>l.length-i.toNat) ⟨0,ds,rfl,by omega,by unfold ck;exact hX⟩ ?_
 rintro(i:Int) V3 ⟨j,ds,rfl,hj,hX⟩
 have hV3:=hV1.trans hX.vle
 refine aa (fun hlt=> ?_) (fun hge=> ?_)
 ·have hlt:j<l.length:=by have:=of_decide_eq_true hlt;omega
  obtain⟨hfq,hnode,hp0,hp5,hs1,hs2,hq5,hstep⟩:=hp.at hlt
  obtain⟨ad,yd,ha,hc,hT⟩:=(hl.mono hV3).vR hlt
  refine⟨by omega,by omega,ad,ha,_,_,_,_,_,_,hc,fun _=> ?_⟩
  refine ai (fun q V4=>q.1=false∧V3.Le V4) ((nu (h.mono hV3)).mono ?_) ?_
  ·rintro r V4 ⟨rfl,hV4⟩
   rw[hfq]
   obtain⟨ad2,ha2,hc2,_⟩:=(hss.mono (hV3.trans hV4)).fD (i:=j) (by omega)
   refine⟨_,rfl,aa (fun hb=>absurd hb ?_) (fun _=>⟨by omega,by omega,ad2,ha2,_,hc2,aa (fun hb=>absurd hb ?_) (fun _=>⟨by omega,by omega,ad2,ha2,_,hc2, ?_,hV4⟩)⟩)⟩
   ·rw[decide_eq_false (by omega),decide_eq_false (by omega)];decide
   ·rw[decide_eq_false (by omega)];decide
   ·exact decide_eq_false (by omega)
  rintro⟨q,⟨⟩⟩ V4 ⟨h1,hV4⟩
  have h1:q=false:=h1
  have hV4:V3.Le V4:=hV4
  subst h1
  dsimp only [unc]
  have hX4:=hX.mono hV4
  obtain⟨ad2,ha2,hc2,_⟩:=(hss.mono (hV3.trans hV4)).fD (i:=j) (by omega)
  have hxn:=hX4.xn
  rw[dU]at hxn
  have hyn4:=hX4.yn
  obtain⟨ad3,ha3,hc3⟩:=hX4.cell (by rw[dU];omega)
  obtain⟨ad4,ds',ha4,hset,hX5⟩:=hX4.put (by rw[dU];omega) (i:=(l.getD j default).aS.toNat) (v:=ss.getD j 0) (by omega) (au (by omega) (by omega))
  rw[show(l.getD j default).node=(k:Int)from hnode]
  refine aa (fun h=>absurd h (by decide)) (fun _=>⟨trivial,V4,View.Le.refl _,by omega,by omega,ad3,ha3,w,hc3,by omega,by omega,ad2,ha2,_,hc2,hp0,by omega,ad4,ha4,hset,au (by omega) (by omega),⟨j+1,ds',by omega,by omega, ?_⟩,by omega⟩)
  rw[hstep]
  exact hX5
 ·have hge:j=l.length:=by have:=of_decide_eq_false hge;omega
  subst hge
  rw[List.take_of_length_le (Nat.le_refl _),List.take_of_length_le (by omega)]at hX
  have hR:=hX.slR (by rw[dU];omega)
  refine(dK hR).mono ?_
  rintro r V4 ⟨rfl,hV4⟩
  rw[hp.out]
  exact⟨_,rfl,aa (fun h=>absurd h (by decide)) (fun _=>⟨x,rfl,hR.mono hV4,hV3.trans hV4⟩)⟩
end
def dN (n:Nod) (i:Int):List Pce→List UInt8→List Tod
 | [],_=> []
 | p::ps,b=>⟨i,p.aS,n.an.getD p.aS.toNat 0,16,p.from_,b.take p.len.toNat⟩::dN n i ps (b.drop p.len.toNat)
noncomputable def cE (t:Tre) (data i a:Int) (b:List UInt8):Except Int (Tre×List Tod):=
 if bL t i=false∨a<0 then .error 1 else if b.length=0 then .ok (t,[])else if dZ a b.length=false then .error 16 else
  if data<gD t+jt (t.getD i.toNat default) a b.length then .error 13 else
  .ok (t.set i.toNat { t.getD i.toNat default with size:=max (t.getD i.toNat default).size (a+b.length) },dN (t.getD i.toNat default) i (aC a b.length) b)
def As (V V' :View) (r:Value):Except Int (Tre×List Tod)→Prop
 | .ok (u,l)=>∃x y:Sl,r= .tuple ⟨[aZ x,.slice y.a y.n y.c,.int .i64 0]⟩∧SlR V' x u∧SlR V' y l∧V.Le V'
 | .error e=>r= .tuple ⟨[aZ ⟨none,0,0⟩,.slice none 0 0,.int .i64 e]⟩∧e≠0∧V.Le V'
theorem dH {a:Int} {n:Nat} (h:dZ a n=true):aC a n=pcs a.toNat n:=by
 unfold aC;rw[if_pos h];rfl
section
variable {s y:Sl} {t:Tre} {i a d:Int} {b:List UInt8} {V:View}
theorem uL (h:SlR V s t) (hb:SlR V y b) (hd:inI .i64 d):af Tryz.prog 107 ⟨[aZ s,.int .i64 d,.int .i64 i,.int .i64 a,.slice y.a y.n y.c]⟩ V fun r V' =>As V V' r (cE t d i a b):=by
 refine JS ?_
 unfold BB
 have hn:=h.n;have hyn:=hb.n;have hyc:=hb.c;have hyl:=hb.lim
 unfold cE
 refine fun _ _=>(k9 h).mono ?_
 rintro r V1 ⟨rfl,hV1⟩
 refine⟨_,rfl,aa (fun hc=> ?_) (fun hc=> ?_)⟩
 ·rw[if_pos (by cases hq:bL t i<;>simp [hq]at hc ⊢ <;>omega)]
  exact⟨rfl,by decide,hV1⟩
 have hc:bL t i=true∧0≤a:=by cases hq:bL t i<;>simp [hq]at hc ⊢ <;>omega
 obtain⟨hq,ha0⟩:=hc
 rw[if_neg (by rw[hq];rintro(h | h);cases h;omega)]
 obtain⟨hM,hi0,hi1,hik⟩:=eE hq
 have h12:=(bP hM).len
 refine aa (fun hz=> ?_) (fun hz=> ?_)
 ·have hz:=of_decide_eq_true hz
  rw[if_pos (by omega)]
  refine(eS (h.mono hV1) (cg hM)).mono ?_
  rintro r V2 ⟨x,rfl,hO⟩
  exact⟨x,rfl,x,⟨none,0,0⟩,rfl,hO.slR,SlR.nil _ _ _,hV1.trans hO.le⟩
 have hz:=of_decide_eq_false hz
 rw[if_neg (show ¬b.length=0 by omega)]
 refine oT.mono ?_
 rintro r V2 ⟨rfl,rfl⟩
 have hyb:(y.n:Int)=(b.length:Int):=by omega
 rw[hyb]
 refine⟨_,rfl,aa (fun hf=> ?_) (fun hf=> ?_)⟩
 ·rw[if_pos (by simpa using hf)]
  exact⟨rfl,by decide,hV1⟩
 have hf:=aD hf
 rw[if_neg (by rw[hf];decide)]
 obtain⟨ad,sq,en,ha,hcc,hN⟩:=(h.mono hV1).bO (i:=i.toNat) (by omega)
 refine⟨trivial,V2,View.Le.refl _,by omega,by omega,ad,ha,_,_,_,sq,en,hcc,(nt (h.mono hV1)).mono ?_⟩
 rintro r V3 ⟨rfl,hV3⟩
 refine⟨_,rfl,hV3,(uv (hN.mono hV3)).mono ?_⟩
 rintro r V4 ⟨rfl,hV4⟩
 have hu:=qD t
 have hml:=vP (t.getD i.toNat default) a b.length
 refine⟨_,rfl,au (by omega) (by omega),aa (fun hc=> ?_) (fun hc=> ?_)⟩
 ·rw[if_pos (of_decide_eq_true hc)]
  exact⟨rfl,by decide,hV1.trans (hV3.trans hV4)⟩
 rw[if_neg (of_decide_eq_false hc)]
 have hV14:=hV1.trans (hV3.trans hV4)
 refine(eS (h.mono hV14) (cg hM)).mono ?_
 rintro r V5 ⟨x,rfl,hO⟩
 have hOn:=hO.n
 obtain⟨ad5,sq5,en5,ha5,hc5,hN5,_,hset,_⟩:=hO.ji (i:=i.toNat) (by omega)
 have hf0:=hf
 unfold dZ at hf0
 have hf0:=of_decide_eq_true hf0
 have hsz:=fj.1 hN5.size
 have emax:(if a+(b.length:Int)>(t.getD i.toNat default).size then a+(b.length:Int)else(t.getD i.toNat default).size)=max (t.getD i.toNat default).size (a+b.length):=by split<;>omega
 obtain⟨hs1,hO2⟩:=hset (max (t.getD i.toNat default).size (a+b.length)) _ (au (by omega) (by omega)) rfl
 refine⟨x,rfl,fun _=>⟨by omega,by omega,ad5,ha5,_,rfl,_,av hc5 2 rfl,au (by omega) (by omega),_,rfl,hs1, ?_⟩⟩
 rw[emax]
 generalize V5.sets ((ad5.add (i.toNat*5)).add 2) [.int .i64 (max (t.getD i.toNat default).size (a+b.length))]=V6 at hO2
 refine gx.mono ?_
 rintro r V7 ⟨z,rfl,hz7,hV7⟩
 have hO7:=hO2.mono hV7
 have hV07:=hV14.trans hO7.le
 have hT7:=hO7.slR
 rw[dH hf]at hz7
 have hzn:=hz7.n
 have hzl:=hz7.lim
 have hpl:=dL a b.length
 rw[dH hf]at hpl
 rw[dH hf]
 obtain⟨ad7,sq7,en7,ha7,hc7,hN7⟩:=hT7.bO (i:=i.toNat) (by simp;omega)
 rw[cq (by omega)]at hc7 hN7
 have e57:ad5=ad7:=by rw[ha5]at ha7;cases ha7;rfl
 subst e57
 have hsq:SlR V7 sq7 (t.getD i.toNat default).an:=hN7.an
 have hsqn:=hsq.n
 have f5:=(bN ((bP hM).at (show i.toNat<12 by omega)) hik).2.2.2.2.1
 refine⟨z,rfl, ?_⟩
 refine sJ (k:= .sl) (l:= .sl) (n:= .int .i64) (fun(q w:Sl) (j:Int) V8=>∃(c:Nat) (b' :List UInt8) (a' :Nat) (done:List Tod) (cs:List Value),j=c∧c≤(pcs a.toNat b.length).length∧(pcs a.toNat b.length).drop c=pcs a' b'.length∧(a' :Int)+b'.length=a+b.length∧done.length=c∧
   done++dN (t.getD i.toNat default) i (pcs a' b'.length) b' =dN (t.getD i.toNat default) i (pcs a.toNat b.length) b∧SlR V7 q b' ∧Buf V8 w 77 (Rep.sz Tod) cs∧aR (V8.minus w) cs done∧V7.Le (V8.minus w)) (fun _ _ (j:Int) _=>(pcs a.toNat b.length).length-j.toNat)
  ⟨0,b,a.toNat,[],[],rfl,by omega,rfl,by omega,rfl,rfl,hb.mono hV07,Buf.nil _ _ _,rfl,View.Le.refl _⟩ ?_
 rintro(q w:Sl) (j:Int) V8 ⟨c,b',a',done,cs,rfl,hcl,hdr,hab,hdl,hdone,hq8,hB,hR,hle⟩
 have hV78:=hle.trans (View.aj _ _)
 refine aa (fun hlt=> ?_) (fun hge=> ?_)
 ·have hlt:c<(pcs a.toNat b.length).length:=by have:=of_decide_eq_true hlt;omega
  have hbp:0<b'.length:=by
   apply Nat.pos_of_ne_zero
   intro h0
   rw[h0,gC,List.drop_eq_nil_iff]at hdr
   omega
  have hst:=iB (a:=a') hbp
  rw[hst]at hdr hdone
  have hdc:=List.drop_eq_getElem_cons hlt
  rw[hdc]at hdr
  injection hdr with hp1 hp2
  obtain⟨ad8,ha8,hc8⟩:=(hz7.mono hV78).xR hlt
  have eg:(pcs a.toNat b.length).getD c default=⟨(a' /16:Nat),(a' %16:Nat),(min b'.length (16-a' %16):Nat)⟩:=by rw[List.getD_eq_getElem?_getD,List.getElem?_eq_getElem hlt];exact hp1
  rw[eg]at hc8
  dsimp only at hc8
  have ht' :dN (t.getD i.toNat default) i (⟨(a' /16:Nat),(a' %16:Nat),(min b'.length (16-a' %16):Nat)⟩::pcs (a' +min b'.length (16-a' %16)) (b'.length-min b'.length (16-a' %16))) b' =
    ⟨i,(a' /16:Nat),(t.getD i.toNat default).an.getD (a' /16) 0,16,(a' %16:Nat),b'.take (min b'.length (16-a' %16))⟩::dN (t.getD i.toNat default) i (pcs (a' +min b'.length (16-a' %16)) (b'.length-min b'.length (16-a' %16))) (b'.drop (min b'.length (16-a' %16))):=rfl
  rw[ht']at hdone
  obtain⟨m,hm⟩:∃m,m=min b'.length (16-a' %16):=⟨_,rfl⟩
  rw[←hm]at hc8 hdone hp2
  have hqn:=hq8.n;have hqc:=hq8.c;have hql:=hq8.lim
  obtain⟨ad9,ha9,hc9,hi9⟩:=hsq.fD (i:=a' /16) (by omega)
  have e1:(if q.c=0 then q.a else Option.map (fun(x:Addr)=>x.add 0) q.a)=q.a:=by rw[cu,ite_self]
  have hwn:=hB.n_eq (α:=Tod) hR
  refine⟨by omega,by omega,ad8,ha8,_,_,_,hc8,fun _=>⟨trivial,V7,hV78,_,rfl,sq7,av hc7 3 rfl,by omega,by omega,ad9,ha9,_,hc9,by omega,by omega,by omega, ?_⟩⟩
  rw[e1]
  refine((zY (s:=⟨q.a,m,q.c⟩) ((hq8.mono hle).take (j:=m) (by omega)) (by simp;omega)).kZ hB).mono ?_
  rintro r V9 ⟨U,⟨e,rfl,hF⟩,hU,hB9⟩
  have hle9:=hF.vle.trans hU
  refine⟨e,rfl,(hle.trans hle9).trans (View.aj _ _),fun r hr=> ?_⟩
  refine pn (α:=Tod) (V0:=V7) (d:=⟨i,(a' /16:Nat),(t.getD i.toNat default).an.getD (a' /16) 0,16,(a' %16:Nat),b'.take m⟩) rfl hB9 (hR.mono hle9) ⟨e,rfl,⟨au (by dsimp only;omega) (by dsimp only;omega),au (by dsimp only;omega) (by dsimp only;omega),hi9,au (by dsimp only;omega) (by dsimp only;omega),au (by dsimp only;omega) (by dsimp only;omega),hF.slR.mono hU⟩⟩ (hle.trans hle9) hr rfl (by show(w.n+1)*64≤_;omega) (by show w.n+1≤_;omega) fun v V10 cs' g1 g2 g3=> ?_
  refine⟨by omega,by omega,by omega,au (by omega) (by omega),⟨c+1,b'.drop m,a' +m,_,cs',by omega,by omega,by rw[hp2,List.length_drop],by rw[List.length_drop];omega,by simp [hdl], ?_, ?_,g1,g2,g3⟩,by omega⟩
  ·rw[List.append_assoc,List.length_drop];exact hdone
  ·have:=hq8.sub (i:=m) (j:=b'.length) (by omega) (Nat.le_refl _)
   rw[List.take_length, ←hqn]at this
   exact this
 ·have hge:c=(pcs a.toNat b.length).length:=by have:=of_decide_eq_false hge;omega
  have hb0:b'.length=0:=by
   apply Classical.byContradiction
   intro h0
   have h1:(pcs a.toNat b.length).drop c= []:=List.drop_of_length_le (by omega)
   rw[h1,iB (a:=a') (n:=b'.length) (by omega)]at hdr
   cases hdr
  rw[hb0,gC]at hdone
  have hdone:done=dN (t.getD i.toNat default) i (pcs a.toNat b.length) b:=by rw[←hdone];simp [dN]
  rw[←hdone]
  exact⟨x,w,rfl,hT7.mono hV78,hB.slR hR (View.aj _ _),hV07.trans hV78⟩
theorem pz (h:SlR V s t) (hb:SlR V y b) (hd:inI .i64 d):af Tryz.prog 89 ⟨[aZ s,.int .i64 d,.int .i64 i,.int .i64 a,.slice y.a y.n y.c]⟩ V fun r V' =>As V V' r (cE t d i a b):=by
 refine MP ?_
 unfold HC
 have hn:=h.n;have hyn:=hb.n;have hyc:=hb.c;have hyl:=hb.lim
 unfold cE
 refine fun _ _=>(nu h).mono ?_
 rintro r V1 ⟨rfl,hV1⟩
 refine⟨_,rfl,aa (fun hc=> ?_) (fun hc=> ?_)⟩
 ·rw[if_pos (by cases hq:bL t i<;>simp [hq]at hc ⊢ <;>omega)]
  exact⟨rfl,by decide,hV1⟩
 have hc:bL t i=true∧0≤a:=by cases hq:bL t i<;>simp [hq]at hc ⊢ <;>omega
 obtain⟨hq,ha0⟩:=hc
 rw[if_neg (by rw[hq];rintro(h | h);cases h;omega)]
 obtain⟨hM,hi0,hi1,hik⟩:=eE hq
 have h12:=(bP hM).len
 refine aa (fun hz=> ?_) (fun hz=> ?_)
 ·have hz:=of_decide_eq_true hz
  rw[if_pos (by omega)]
  refine(cL (h.mono hV1) (cg hM)).mono ?_
  rintro r V2 ⟨x,rfl,hO⟩
  exact⟨x,rfl,x,⟨none,0,0⟩,rfl,hO.slR,SlR.nil _ _ _,hV1.trans hO.le⟩
 have hz:=of_decide_eq_false hz
 rw[if_neg (show ¬b.length=0 by omega)]
 refine qA.mono ?_
 rintro r V2 ⟨rfl,rfl⟩
 have hyb:(y.n:Int)=(b.length:Int):=by omega
 rw[hyb]
 refine⟨_,rfl,aa (fun hf=> ?_) (fun hf=> ?_)⟩
 ·rw[if_pos (by simpa using hf)]
  exact⟨rfl,by decide,hV1⟩
 have hf:=aD hf
 rw[if_neg (by rw[hf];decide)]
 obtain⟨ad,sq,en,ha,hcc,hN⟩:=(h.mono hV1).bO (i:=i.toNat) (by omega)
 refine⟨by omega,by omega,ad,ha,_,_,_,sq,en,hcc,fun _=>⟨trivial,V2,View.Le.refl _,(qF (h.mono hV1)).mono ?_⟩⟩
 rintro r V3 ⟨rfl,rfl⟩
 refine⟨_,rfl,View.Le.refl _,(xV hN).mono ?_⟩
 rintro r V4 ⟨rfl,hV4⟩
 have hu:=qD t
 have hml:=vP (t.getD i.toNat default) a b.length
 refine⟨_,rfl,au (by omega) (by omega),aa (fun hc=> ?_) (fun hc=> ?_)⟩
 ·rw[if_pos (of_decide_eq_true hc)]
  exact⟨rfl,by decide,hV1.trans hV4⟩
 rw[if_neg (of_decide_eq_false hc)]
 have hV14:=hV1.trans hV4
 refine(cL (h.mono hV14) (cg hM)).mono ?_
 rintro r V5 ⟨x,rfl,hO⟩
 have hOn:=hO.n
 obtain⟨ad5,sq5,en5,ha5,hc5,hN5,_,hset,_⟩:=hO.ji (i:=i.toNat) (by omega)
 have hf0:=hf
 unfold dZ at hf0
 have hf0:=of_decide_eq_true hf0
 have hsz:=fj.1 hN5.size
 have emax:(if a+(b.length:Int)>(t.getD i.toNat default).size then a+(b.length:Int)else(t.getD i.toNat default).size)=max (t.getD i.toNat default).size (a+b.length):=by split<;>omega
 obtain⟨hs1,hO2⟩:=hset (max (t.getD i.toNat default).size (a+b.length)) _ (au (by omega) (by omega)) rfl
 refine⟨x,rfl,fun _=>⟨au (by omega) (by omega),by omega,by omega,ad5,ha5,hs1, ?_⟩⟩
 rw[emax]
 generalize V5.sets ((ad5.add (i.toNat*5)).add 2) [.int .i64 (max (t.getD i.toNat default).size (a+b.length))]=V6 at hO2
 refine jR.mono ?_
 rintro r V7 ⟨z,rfl,hz7,hV7⟩
 have hO7:=hO2.mono hV7
 have hV07:=hV14.trans hO7.le
 have hT7:=hO7.slR
 rw[dH hf]at hz7
 have hzn:=hz7.n
 have hzl:=hz7.lim
 have hpl:=dL a b.length
 rw[dH hf]at hpl
 rw[dH hf]
 obtain⟨ad7,sq7,en7,ha7,hc7,hN7⟩:=hT7.bO (i:=i.toNat) (by simp;omega)
 rw[cq (by omega)]at hc7 hN7
 have e57:ad5=ad7:=by rw[ha5]at ha7;cases ha7;rfl
 subst e57
 have hsq:SlR V7 sq (t.getD i.toNat default).an:=hN.an.mono (hV4.trans hO7.le)
 have hsqn:=hsq.n
 have f5:=(bN ((bP hM).at (show i.toNat<12 by omega)) hik).2.2.2.2.1
 refine⟨z,rfl, ?_⟩
 refine sJ (k:= .sl) (l:= .sl) (n:= .int .i64) (fun(q w:Sl) (j:Int) V8=>∃(c:Nat) (b' :List UInt8) (a' :Nat) (done:List Tod) (cs:List Value),j=c∧c≤(pcs a.toNat b.length).length∧(pcs a.toNat b.length).drop c=pcs a' b'.length∧(a' :Int)+b'.length=a+b.length∧done.length=c∧
   done++dN (t.getD i.toNat default) i (pcs a' b'.length) b' =dN (t.getD i.toNat default) i (pcs a.toNat b.length) b∧SlR V7 q b' ∧Buf V8 w 77 (Rep.sz Tod) cs∧aR (V8.minus w) cs done∧V7.Le (V8.minus w)) (fun _ _ (j:Int) _=>(pcs a.toNat b.length).length-j.toNat)
  ⟨0,b,a.toNat,[],[],rfl,by omega,rfl,by omega,rfl,rfl,hb.mono hV07,Buf.nil _ _ _,rfl,View.Le.refl _⟩ ?_
 rintro(q w:Sl) (j:Int) V8 ⟨c,b',a',done,cs,rfl,hcl,hdr,hab,hdl,hdone,hq8,hB,hR,hle⟩
 have hV78:=hle.trans (View.aj _ _)
 refine aa (fun hlt=> ?_) (fun hge=> ?_)
 ·have hlt:c<(pcs a.toNat b.length).length:=by have:=of_decide_eq_true hlt;omega
  have hbp:0<b'.length:=by
   apply Nat.pos_of_ne_zero
   intro h0
   rw[h0,gC,List.drop_eq_nil_iff]at hdr
   omega
  have hst:=iB (a:=a') hbp
  rw[hst]at hdr hdone
  have hdc:=List.drop_eq_getElem_cons hlt
  rw[hdc]at hdr
  injection hdr with hp1 hp2
  obtain⟨ad8,ha8,hc8⟩:=(hz7.mono hV78).xR hlt
  have eg:(pcs a.toNat b.length).getD c default=⟨(a' /16:Nat),(a' %16:Nat),(min b'.length (16-a' %16):Nat)⟩:=by rw[List.getD_eq_getElem?_getD,List.getElem?_eq_getElem hlt];exact hp1
  rw[eg]at hc8
  dsimp only at hc8
  have ht' :dN (t.getD i.toNat default) i (⟨(a' /16:Nat),(a' %16:Nat),(min b'.length (16-a' %16):Nat)⟩::pcs (a' +min b'.length (16-a' %16)) (b'.length-min b'.length (16-a' %16))) b' =
    ⟨i,(a' /16:Nat),(t.getD i.toNat default).an.getD (a' /16) 0,16,(a' %16:Nat),b'.take (min b'.length (16-a' %16))⟩::dN (t.getD i.toNat default) i (pcs (a' +min b'.length (16-a' %16)) (b'.length-min b'.length (16-a' %16))) (b'.drop (min b'.length (16-a' %16))):=rfl
  rw[ht']at hdone
  obtain⟨m,hm⟩:∃m,m=min b'.length (16-a' %16):=⟨_,rfl⟩
  rw[←hm]at hc8 hdone hp2
  have hqn:=hq8.n;have hqc:=hq8.c;have hql:=hq8.lim
  obtain⟨ad9,ha9,hc9,hi9⟩:=hsq.fD (i:=a' /16) (by omega)
  have e1:(if q.c=0 then q.a else Option.map (fun(x:Addr)=>x.add 0) q.a)=q.a:=by rw[cu,ite_self]
  have hwn:=hB.n_eq (α:=Tod) hR
  refine⟨by omega,by omega,ad8,ha8,_,_,_,hc8,fun _=>⟨trivial,V7,hV78,by omega,by omega,ad9,ha9,_,hc9,by omega,by omega,by omega, ?_⟩⟩
  rw[e1]
  refine ew (α:=UInt8) (V0:=V8) (y:=⟨q.a,m,q.c⟩) (l:= []) (m:=b'.take m) rfl (cs:= []) (Buf.nil _ _ _) rfl (((hq8.mono hle).take (j:=m) (by omega)).mono (View.aj _ _)) (View.Le.refl _) (by simp;omega) (by simp;omega) ?_
  intro e V9 cs9 hb9 hr9 hle9
  have hV89:=hle9.trans (View.aj _ _)
  have hB9:=hB.mono hV89
  have hE:SlR (V9.minus w) e (b'.take m):=by
   have h1:=(hB.mono hle9).swap hb9
   rw[jM hr9]at h1
   exact h1.slR (W:=V9.minus w) (cV _) (View.Le.refl _)
  have hwm:=aN hV89 w
  refine⟨hV78.trans hV89,fun r hr=> ?_⟩
  refine pn (α:=Tod) (V0:=V7) (d:=⟨i,(a' /16:Nat),(t.getD i.toNat default).an.getD (a' /16) 0,16,(a' %16:Nat),b'.take m⟩) rfl hB9 (hR.mono hwm) ⟨e,rfl,⟨au (by dsimp only;omega) (by dsimp only;omega),au (by dsimp only;omega) (by dsimp only;omega),hi9,au (by dsimp only;omega) (by dsimp only;omega),au (by dsimp only;omega) (by dsimp only;omega),hE⟩⟩ (hle.trans hwm) hr rfl (by show(w.n+1)*64≤_;omega) (by show w.n+1≤_;omega) fun v V10 cs' g1 g2 g3=> ?_
  refine⟨by omega,by omega,by omega,au (by omega) (by omega),⟨c+1,b'.drop m,a' +m,_,cs',by omega,by omega,by rw[hp2,List.length_drop],by rw[List.length_drop];omega,by simp [hdl], ?_, ?_,g1,g2,g3⟩,by omega⟩
  ·rw[List.append_assoc,List.length_drop];exact hdone
  ·have:=hq8.sub (i:=m) (j:=b'.length) (by omega) (Nat.le_refl _)
   rw[List.take_length, ←hqn]at this
   exact this
 ·have hge:c=(pcs a.toNat b.length).length:=by have:=of_decide_eq_false hge;omega
  have hb0:b'.length=0:=by
   apply Classical.byContradiction
   intro h0
   have h1:(pcs a.toNat b.length).drop c= []:=List.drop_of_length_le (by omega)
   rw[h1,iB (a:=a') (n:=b'.length) (by omega)]at hdr
   cases hdr
  rw[hb0,gC]at hdone
  have hdone:done=dN (t.getD i.toNat default) i (pcs a.toNat b.length) b:=by rw[←hdone];simp [dN]
  rw[←hdone]
  exact⟨x,w,rfl,hT7.mono hV78,hB.slR hR (View.aj _ _),hV07.trans hV78⟩
end
def gI (l:List Int) (z:Int) (k:Nat):List Int:=(List.range 5).map fun p=>if p<k∧z≤(p:Int)*16 then 0 else l.getD p 0
theorem eU (l:List Int) (z:Int) (k:Nat):(gI l z k).length=5:=by unfold gI;simp
theorem nF {l:List Int} {z:Int} {k p:Nat} (hp:p<5):(gI l z k).getD p 0=if p<k∧z≤(p:Int)*16 then 0 else l.getD p 0:=by
 rw[bY (by rw[eU];exact hp)]
 unfold gI
 simp only [List.getElem_map,List.getElem_range]
theorem tu {l:List Int} (z:Int) (h:l.length=5):gI l z 0=l:=by
 apply List.ext_getElem
 ·rw[eU,h]
 ·intro i h1 h2
  rw[←bY h1,nF (by omega),if_neg (by omega),bY h2]
theorem qW {l:List Int} {z:Int} {k:Nat} (h:z≤(k:Int)*16):(gI l z k).set k 0=gI l z (k+1):=by
 unfold gI
 apply List.ext_getElem
 ·simp
 ·intro i h1 h2
  rw[List.getElem_set]
  simp only [List.getElem_map,List.getElem_range]
  split
  ·rename_i e;subst e;rw[if_pos (by omega)]
  ·rename_i e
   by_cases hc:i<k∧z≤(i:Int)*16
   ·rw[if_pos hc,if_pos (by omega)]
   ·rw[if_neg hc,if_neg (by omega)]
theorem tv {l:List Int} {z:Int} {k:Nat} (h:¬z≤(k:Int)*16):gI l z k=gI l z (k+1):=by
 unfold gI
 apply List.map_congr_left
 intro i _
 by_cases hc:i<k∧z≤(i:Int)*16
 ·rw[if_pos hc,if_pos (by omega)]
 ·rw[if_neg hc,if_neg]
  rintro⟨h1,h2⟩
  by_cases e:i=k
  ·subst e;exact h h2
  ·exact hc ⟨by omega,h2⟩
def gq (n:Nod) (i z:Int):List Tod:=if z<n.size∧0<z%16∧n.an.getD (z/16).toNat 0≠0 then [⟨i,z/16,n.an.getD (z/16).toNat 0,z%16,0,[]⟩]else []
noncomputable def c5 (t:Tre) (i z:Int):Except Int (Tre×List Tod):=
 if bL t i=false∨z<0 then .error 1 else if 80<z then .error 16 else
  .ok (t.set i.toNat { t.getD i.toNat default with size:=z,an:=gI (t.getD i.toNat default).an z 5 },gq (t.getD i.toNat default) i z)
theorem dR.new {V V' :View} {x y:Sl} {k:Nat} {t:Tre} {cs ds:List Value} (h:dR V V' x y k t cs ds) (hk:k<t.length) (hk5:0<(t.getD k default).an.length) {r:Nat} {o:Obj} (hr:V'.size≤r):
  ∃W:View,W.see r=some o∧V.Le W∧dR W (V'.put r o) x y k t cs ds:=by
 have hfr:=View.ax hr
 have h2:=h.mono (View.bB (o:=o) hfr)
 refine⟨(((V'.put r o).minus x).minus y), ?_,h2.le,h2.buf,h2.row,h2.rep,h2.ints,View.Le.refl _⟩
 have hxn:=h.xn
 have hyn:=h.yn
 have hx:∀a,x.a=some a→r≠a.block:=by
  intro a ha e
  rcases h.buf.own with ⟨h1,_⟩ | ⟨q,all,h1,h3,_⟩
  ·rw[h1]at ha;cases ha
  ·rw[h1]at ha;cases ha
   have e:r=q:=e
   rw[←e,hfr]at h3;cases h3
 have hy:∀a,y.a=some a→r≠a.block:=by
  intro a ha e
  rcases h.row.own with ⟨h1,_⟩ | ⟨q,all,h1,h3,_⟩
  ·rw[h1]at ha;cases ha
  ·rw[h1]at ha;cases ha
   have h4:=(View.aj V' x).see _ _ h3
   have e:r=q:=e
   rw[←e,hfr]at h4;cases h4
 have m1:((V'.put r o).minus x).see r=some o:=by
  unfold View.minus
  cases ha:x.a with
  | none=>exact View.ah _ _ _
  | some a=>rw[aO,if_neg (hx a ha)];exact View.ah _ _ _
 unfold View.minus at m1 ⊢
 cases ha:y.a with
 | none=>exact m1
 | some a=>rw[aO,if_neg (hy a ha)];exact m1
theorem dR.base {V V' W:View} {x y:Sl} {k:Nat} {t:Tre} {cs ds:List Value} (h:dR V V' x y k t cs ds) (hW:W.Le V):dR W V' x y k t cs ds:=⟨h.buf,h.row,h.rep,h.ints,hW.trans h.le⟩
theorem uM {W:View} {r:Nat} {x:Tod} {cs:List Value} (h:W.see r=some (.cells ⟨cs⟩ 77 (0,0))) (hr:Rep.rep W cs x):SlR W ⟨some ⟨r,0,none⟩,1,1⟩ [x]:=
 bK (W:=W) (l:= [x]) h ⟨cs,[],by simp,hr,rfl⟩ (View.Le.refl _) (by simp)
theorem DC {z:Int} (h:0≤z):Int.tdiv z 16=z/16:=Int.tdiv_eq_ediv_of_nonneg h
theorem DD {z:Int} (h:0≤z):Int.tmod z 16=z%16:=Int.tmod_eq_emod_of_nonneg h
section
variable {s:Sl} {t:Tre} {i z:Int} {V:View}
theorem uN (h:SlR V s t):af Tryz.prog 108 ⟨[aZ s,.int .i64 i,.int .i64 z]⟩ V fun r V' =>As V V' r (c5 t i z):=by
 refine JT ?_
 unfold BC
 have hn:=h.n
 unfold c5
 refine fun _ _=>(k9 h).mono ?_
 rintro r V1 ⟨rfl,hV1⟩
 refine⟨_,rfl,aa (fun hc=> ?_) (fun hc=> ?_)⟩
 ·rw[if_pos (by cases hq:bL t i<;>simp [hq]at hc ⊢ <;>omega)]
  exact⟨rfl,by decide,hV1⟩
 have hc:bL t i=true∧0≤z:=by cases hq:bL t i<;>simp [hq]at hc ⊢ <;>omega
 obtain⟨hq,hz0⟩:=hc
 rw[if_neg (by rw[hq];rintro(h | h);cases h;omega)]
 refine aa (fun hc=> ?_) (fun hc=> ?_)
 ·rw[if_pos (of_decide_eq_true hc)]
  exact⟨rfl,by decide,hV1⟩
 have hz80:=of_decide_eq_false hc
 rw[if_neg hz80]
 obtain⟨hM,hi0,hi1,hik⟩:=eE hq
 have h12:=(bP hM).len
 obtain⟨k,rfl⟩:∃k:Nat,i=k:=⟨i.toNat,by omega⟩
 have ek:((k:Int)).toNat=k:=rfl
 rw[ek]at hik ⊢
 have f5:=(bN ((bP hM).at (show k<12 by omega)) hik).2.2.2.2.1
 have hz16:=Int.emod_nonneg z (show(16:Int)≠0 by decide)
 rw[DC hz0,DD hz0]
 refine(wm (k:=k) (by omega) (h.mono hV1) (cg hM)).mono ?_
 rintro r V2 ⟨x,w,cs,ds,rfl,hX⟩
 have hxn:=hX.xn
 have hyn:=hX.yn
 have hR:=hX.slR (by omega)
 obtain⟨ad,sq,en,ha,hcc,hN⟩:=hR.bO (i:=k) (by omega)
 have hsqn:=hN.an.n
 refine⟨x,rfl,fun _=>⟨by omega,by omega,ad,ha,by decide,au (by omega) (by omega),by decide, ?_⟩⟩
 refine ai (fun q V3=>q.1=decide (z<(t.getD k default).size∧0<z%16∧(t.getD k default).an.getD (z/16).toNat 0≠0)∧V3=V2) ⟨_,rfl,_,av hcc 2 rfl,aa (fun hb=> ?_) (fun hb=>⟨?_,rfl⟩)⟩ ?_
 ·have hb:z<(t.getD k default).size∧0<z%16:=by
   by_cases h0:z<(t.getD k default).size
   ·rw[decide_eq_true h0]at hb;exact⟨h0,of_decide_eq_true hb⟩
   ·rw[decide_eq_false h0]at hb;cases hb
  obtain⟨ad2,ha2,hc2,_⟩:=hN.an.fD (i:=(z/16).toNat) (by omega)
  refine⟨_,rfl,sq,av hcc 3 rfl,by omega,by omega,ad2,ha2,_,hc2, ?_,rfl⟩
  rw[←decide_not]
  exact decide_eq_decide.2 ⟨fun h=>⟨hb.1,hb.2,h⟩,fun h=>h.2.2⟩
 ·refine(decide_eq_false ?_).symm
  rintro⟨h0,h1,_⟩
  rw[decide_eq_true h0,decide_eq_true h1]at hb;cases hb
 rintro⟨q,⟨⟩⟩ V3 ⟨h1,hV⟩
 have h1:q=decide (z<(t.getD k default).size∧0<z%16∧(t.getD k default).an.getD (z/16).toNat 0≠0):=h1
 have hV:V3=V2:=hV
 subst h1 hV
 dsimp only [unc]
 refine ai (fun q V4=>∃W cs ds,dR W V4 x w k t cs ds∧V1.Le W∧SlR W q.1 (gq (t.getD k default) k z)) (aa (fun hb=> ?_) (fun hb=> ?_)) ?_
 ·have hb:=of_decide_eq_true hb
  obtain⟨ad2,ha2,hc2,hi2⟩:=hN.an.fD (i:=(z/16).toNat) (by omega)
  refine⟨_,rfl,sq,av hcc 3 rfl,by omega,by omega,ad2,ha2,_,hc2,fun r hr=> ?_⟩
  obtain⟨W,hW1,hW2,hW3⟩:=hX.new (by omega) (by omega) (o:= .cells ⟨[.int .i64 k,.int .i64 (z/16),.int .i64 ((t.getD k default).an.getD (z/16).toNat 0),.int .i64 (z%16),.int .i64 0,.slice none 0 0]⟩ 77 (0,0)) hr
  refine⟨W,cs,ds,hW3,hW2, ?_⟩
  unfold gq;rw[if_pos hb]
  exact uM hW1 ⟨⟨none,0,0⟩,rfl,⟨au (by dsimp only;omega) (by dsimp only;omega),au (by dsimp only;omega) (by dsimp only;omega),hi2,au (by dsimp only;omega) (by dsimp only;omega),au (by dsimp only;omega) (by dsimp only;omega),SlR.nil _ _ _⟩⟩
 ·have hb:=of_decide_eq_false hb
  refine⟨V1,cs,ds,hX,View.Le.refl _, ?_⟩
  unfold gq;rw[if_neg hb]
  exact SlR.nil _ _ _
 rintro⟨l,⟨⟩⟩ V4 ⟨W,cs,ds,hX,hW,hl⟩
 have hl:SlR W l (gq (t.getD k default) k z):=hl
 dsimp only [unc]
 obtain⟨ad3,cs3,ha3,hs3,hX3⟩:=hX.size (by omega) (v:=z) (au (by omega) (by omega))
 have:ad3=ad:=by rw[ha]at ha3;cases ha3;rfl
 subst this
 refine⟨_,rfl,hs3, ?_⟩
 generalize V4.sets ((ad3.add (k*5)).add 2) [.int .i64 z]=V5 at hX3
 refine uq.mono ?_
 rintro r V6 ⟨rfl,rfl⟩
 have hpg:∀p:Nat,p<5→(iW z≤p↔z≤(p:Int)*16):=by
  intro p hp
  unfold iW
  omega
 refine⟨_,rfl, ?_⟩
 have e0:t.set k { t.getD k default with size:=z } =t.set k { t.getD k default with size:=z,an:=gI (t.getD k default).an z (iW z) } :=by
  have:gI (t.getD k default).an z (iW z)=(t.getD k default).an:=by
   apply List.ext_getElem
   ·rw[eU,f5]
   ·intro i h1 h2
    have hi5:i<5:=by rw[eU]at h1;exact h1
    rw[←bY h1,nF hi5,if_neg,bY h2]
    rintro⟨h3,h4⟩
    have:=(hpg i hi5).2 h4
    omega
  rw[this]
 rw[e0]at hX3
 refine bh (k:= .int .i64) (fun(j:Int) V7=>∃(p:Nat) (cs ds:List Value),j=p∧iW z≤p∧p≤5∧dR W V7 x w k (t.set k { t.getD k default with size:=z,an:=gI (t.getD k default).an z p }) cs ds) (fun(j:Int) _=>5-j.toNat) ⟨iW z,cs3,ds,rfl,Nat.le_refl _,by unfold iW;omega,hX3⟩ ?_
 rintro(j:Int) V7 ⟨p,cs,ds,rfl,hp0,hp5,hX7⟩
 refine aa (fun hlt=> ?_) (fun hge=> ?_)
 ·have hlt:p<5:=by have:=of_decide_eq_true hlt;omega
  obtain⟨ad4,ha4,hc4⟩:=hX7.cell (by simp;omega)
  have:ad4=ad3:=by rw[ha4]at ha;cases ha;rfl
  subst this
  have hwn:=hX7.yn
  rw[cq (by omega)]at hwn
  dsimp only at hwn
  rw[eU]at hwn
  obtain⟨ad5,ds',ha5,hs5,hX8⟩:=hX7.put (by simp;omega) (i:=p) (v:=0) (by rw[cq (by omega)];show p<(gI _ _ _).length;rw[eU];exact hlt) (au (by decide) (by decide))
  refine⟨_,rfl,w,hc4,by omega,by omega,ad5,ha5,hs5,au (by omega) (by omega),⟨p+1,cs,ds',by omega,by omega,by omega, ?_⟩,by omega⟩
  rw[cq (by omega),List.set_set]at hX8
  dsimp only at hX8
  rw[qW ((hpg p hlt).1 hp0)]at hX8
  exact hX8
 ·have hge:p=5:=by have:=of_decide_eq_false hge;omega
  subst hge
  have hle:W.Le V7:=hX7.vle
  exact⟨x,l,rfl,hX7.slR (by simp;omega),hl.mono hle,hV1.trans (hW.trans hle)⟩
end
structure LB (b:Nat) (U V:View) (v:Value):Prop where
 le:U.Le V
 no:U.see b=none
 at_:V.see b=some (.cells ⟨[v]⟩ 40 (0,0))
theorem LB.set {b:Nat} {U V:View} {v:Value} (h:LB b U V v) {a:Addr} {k:Nat} (hs:ay U a k) (vs:List Value):ay V a k∧LB b (U.sets a vs) (V.sets a vs) v:=by
 have hne:b≠a.block:=by
  rintro rfl
  obtain⟨_,c,e,f,h1,_⟩:=hs
  rw[h.no]at h1;cases h1
 obtain⟨h1,h2,_⟩:=sX h.le hs vs
 exact⟨h1,h2,by rw[iM hne];exact h.no,by rw[iM hne];exact h.at_⟩
theorem LB.box {b:Nat} {U V:View} {v:Value} (h:LB b U V v) (u:Value):ay V ⟨b,0,none⟩ 1∧LB b U (V.sets ⟨b,0,none⟩ [u]) u:=by
 have e:=bn (off:=0) (vs:= [u]) h.at_
 refine⟨bJ h.at_ (by simp), ?_,h.no, ?_⟩
 ·rw[e]
  refine⟨Nat.le_trans h.le.size (Nat.le_max_left _ _),fun i o hi=> ?_,h.le.out⟩
  have hne:i≠b:=fun e=>by rw[e,h.no]at hi;cases hi
  rw[View.aF _ _ hne];exact h.le.see _ _ hi
 ·rw[e,View.ah];rfl
theorem LB.cells {b:Nat} {U V:View} {v:Value} (h:LB b U V v):aq V (⟨b,0,none⟩:Addr) [v]:=bT.2 (bX h.at_ rfl)
theorem LB.grow {b:Nat} {U V V' :View} {v:Value} (h:LB b U V v) (hV:V.Le V'):LB b U V' v:=⟨h.le.trans hV,h.no,hV.see _ _ h.at_⟩
theorem wG {s:Sl} {t:Tre} {i z:Int} {V:View} (h:SlR V s t):af Tryz.prog 90 ⟨[aZ s,.int .i64 i,.int .i64 z]⟩ V fun r V' =>As V V' r (c5 t i z):=by
 refine MQ ?_
 unfold HD
 have hn:=h.n
 unfold c5
 intro b0 b hb0
 have hL0:LB b V (V.put b (.cells ⟨[.slice none 0 0]⟩ 40 (0,0))) (.slice none 0 0):=⟨View.bB hb0,hb0,View.ah _ _ _⟩
 refine(nu (h.mono hL0.le)).mono ?_
 rintro r V1 ⟨rfl,hV1⟩
 have hL1:=hL0.grow hV1
 obtain⟨hB1,hB2⟩:=hL1.box (.slice none 0 0)
 refine⟨_,rfl,aa (fun hc=> ?_) (fun hc=> ?_)⟩
 ·rw[if_pos (by cases hq:bL t i<;>simp [hq]at hc ⊢ <;>omega)]
  exact⟨hB1,⟨none,0,0⟩,hB2.cells,rfl,by decide,hB2.le⟩
 have hc:bL t i=true∧0≤z:=by cases hq:bL t i<;>simp [hq]at hc ⊢ <;>omega
 obtain⟨hq,hz0⟩:=hc
 rw[if_neg (by rw[hq];rintro(h | h);cases h;omega)]
 refine aa (fun hc=> ?_) (fun hc=> ?_)
 ·rw[if_pos (of_decide_eq_true hc)]
  exact⟨hB1,⟨none,0,0⟩,hB2.cells,rfl,by decide,hB2.le⟩
 have hz80:=of_decide_eq_false hc
 rw[if_neg hz80]
 obtain⟨hM,hi0,hi1,hik⟩:=eE hq
 have h12:=(bP hM).len
 obtain⟨k,rfl⟩:∃k:Nat,i=k:=⟨i.toNat,by omega⟩
 have ek:((k:Int)).toNat=k:=rfl
 rw[ek]at hik ⊢
 have f5:=(bN ((bP hM).at (show k<12 by omega)) hik).2.2.2.2.1
 have hz16:=Int.emod_nonneg z (show(16:Int)≠0 by decide)
 rw[DC hz0,DD hz0]
 obtain⟨ad,sq,en,ha,hcc,hN⟩:=h.bO (i:=k) (by omega)
 have hsqn:=hN.an.n
 refine⟨by omega,by omega,ad,ha,_,_,_,sq,en,aV hL1.le hcc,fun _=>Lg (k:=k) h (cg hM) (by omega) hL1.le ?_⟩
 rintro x w U V3 cs ds hX hU h13 hdj
 have hL3:LB b U V3 (.slice none 0 0):=⟨hU,hdj _ _ hb0 hL1.at_,h13.see _ _ hL1.at_⟩
 have hxn:=hX.xn
 obtain⟨ad3,cs3,ha3,hs3,hX3⟩:=hX.size (by omega) (v:=z) (au (by omega) (by omega))
 obtain⟨hs3',hL4⟩:=hL3.set hs3 [.int .i64 z]
 refine fun _=>⟨by omega,by omega,ad3,ha3,hs3', ?_⟩
 generalize U.sets ((ad3.add (k*5)).add 2) [.int .i64 z]=U4 at hX3 hL4
 generalize V3.sets ((ad3.add (k*5)).add 2) [.int .i64 z]=V4 at hL4
 have e0:t.set k { t.getD k default with size:=z } =t.set k { t.getD k default with size:=z,an:=gI (t.getD k default).an z 0 } :=by rw[tu z f5]
 rw[e0]at hX3
 refine bh (k:= .int .i64) (fun(j:Int) V7=>∃(p:Nat) (U7:View) (cs ds:List Value),j=p∧p≤5∧LB b U7 V7 (.slice none 0 0)∧dR V U7 x w k (t.set k { t.getD k default with size:=z,an:=gI (t.getD k default).an z p }) cs ds) (fun(j:Int) _=>5-j.toNat) ⟨0,U4,cs3,ds,rfl,by omega,hL4,hX3⟩ ?_
 rintro(j:Int) V7 ⟨p,U7,cs,ds,rfl,hp5,hL7,hX7⟩
 refine aa (fun hlt=> ?_) (fun hge=> ?_)
 ·have hlt:p<5:=by have:=of_decide_eq_true hlt;omega
  refine⟨au (by omega) (by omega),ai (fun _ V8=>∃(U8:View) (cs ds:List Value),LB b U8 V8 (.slice none 0 0)∧dR V U8 x w k (t.set k { t.getD k default with size:=z,an:=gI (t.getD k default).an z (p+1) }) cs ds) (aa (fun hb=> ?_) (fun hb=> ?_)) ?_⟩
  ·have hb:=of_decide_eq_true hb
   obtain⟨ad4,ha4,hc4⟩:=hX7.cell (by simp;omega)
   have hwn:=hX7.yn
   rw[cq (by omega)]at hwn
   dsimp only at hwn
   rw[eU]at hwn
   obtain⟨ad5,ds',ha5,hs5,hX8⟩:=hX7.put (by simp;omega) (i:=p) (v:=0) (by rw[cq (by omega)];show p<(gI _ _ _).length;rw[eU];exact hlt) (au (by decide) (by decide))
   obtain⟨hs5',hL8⟩:=hL7.set hs5 [.int .i64 0]
   refine⟨by omega,by omega,ad4,ha4,w,hL7.le.cell hc4,by omega,by omega,ad5,ha5,hs5',_,cs,ds',hL8, ?_⟩
   rw[cq (by omega),List.set_set]at hX8
   dsimp only at hX8
   rw[qW hb]at hX8
   exact hX8
  ·have hb:=of_decide_eq_false hb
   rw[←tv hb]
   exact⟨U7,cs,ds,hL7,hX7⟩
  ·rintro⟨⟩ V8 ⟨U8,cs,ds,hL8,hX8⟩
   exact⟨au (by omega) (by omega),⟨p+1,U8,cs,ds,by omega,by omega,hL8,hX8⟩,by omega⟩
 ·have hge:p=5:=by have:=of_decide_eq_false hge;omega
  subst hge
  have hV7:V.Le V7:=hX7.vle.trans hL7.le
  have hU7:=hX7.slR (by simp;omega)
  refine⟨by decide,au (by omega) (by omega), ?_⟩
  refine ai (fun q V8=>q.1=decide (z<(t.getD k default).size∧0<z%16∧(t.getD k default).an.getD (z/16).toNat 0≠0)∧V8=V7) (aa (fun hb=>⟨by decide,aa (fun hc=> ?_) (fun hc=>⟨?_,rfl⟩)⟩) (fun hb=>⟨?_,rfl⟩)) ?_
  ·have hb:=of_decide_eq_true hb
   have hc:=of_decide_eq_false (aM hc)
   obtain⟨ad2,ha2,hc2,_⟩:=(hN.an.mono hV7).fD (i:=(z/16).toNat) (by omega)
   refine⟨by omega,by omega,ad2,ha2,_,hc2, ?_,rfl⟩
   rw[←decide_not]
   exact decide_eq_decide.2 ⟨fun h=>⟨hb,by omega,h⟩,fun h=>h.2.2⟩
  ·have hc:=of_decide_eq_true (aD hc)
   exact(decide_eq_false (by omega)).symm
  ·have hb:=of_decide_eq_false hb
   exact(decide_eq_false (by omega)).symm
  rintro⟨q,⟨⟩⟩ V8 ⟨h1,hV⟩
  have h1:q=decide (z<(t.getD k default).size∧0<z%16∧(t.getD k default).an.getD (z/16).toNat 0≠0):=h1
  have hV:V8=V7:=hV
  subst h1 hV
  dsimp only [unc]
  refine aa (fun hb=> ?_) (fun hb=> ?_)
  ·have hb:=of_decide_eq_true hb
   have hE:gq (t.getD k default) k z= [⟨k,z/16,(t.getD k default).an.getD (z/16).toNat 0,z%16,0,[]⟩]:=by unfold gq;rw[if_pos hb]
   rw[hE]
   obtain⟨ad2,ha2,hc2,hi2⟩:=hN.an.fD (i:=(z/16).toNat) (by omega)
   have hrep:∀W:View,Rep.rep W [.int .i64 k,.int .i64 (z/16),.int .i64 ((t.getD k default).an.getD (z/16).toNat 0),.int .i64 (z%16),.int .i64 0,.slice none 0 0] (⟨k,z/16,(t.getD k default).an.getD (z/16).toNat 0,z%16,0,[]⟩:Tod):=fun W=>
    ⟨⟨none,0,0⟩,rfl,⟨au (by dsimp only;omega) (by dsimp only;omega),au (by dsimp only;omega) (by dsimp only;omega),hi2,au (by dsimp only;omega) (by dsimp only;omega),au (by dsimp only;omega) (by dsimp only;omega),SlR.nil _ _ _⟩⟩
   have hVU:V.Le U7:=hX7.vle
   refine ai (fun q V9=>q.2.1=0∧LB b U7 V9 (.slice x.a x.n x.c)∧SlR V9 q.1 [(⟨k,z/16,(t.getD k default).an.getD (z/16).toNat 0,z%16,0,[]⟩:Tod)]) ⟨trivial,V,hV7,by omega,by omega,ad2,ha2,_,hc2,by decide,fun r hr=> ?_, ?_⟩ ?_
   ·have hfr:=View.ax hr
    have hLr:=hL7.grow (View.bB (o:= .cells ⟨[.int .i64 k,.int .i64 (z/16),.int .i64 ((t.getD k default).an.getD (z/16).toNat 0),.int .i64 (z%16),.int .i64 0,.slice none 0 0]⟩ 77 (0,0)) hfr)
    obtain⟨c1,c2⟩:=hLr.box (.slice x.a x.n x.c)
    refine⟨hV7.trans (View.bB hfr),c1,hVU.trans c2.le,rfl,c2, ?_⟩
    have hne:r≠b:=by
     rintro rfl
     rw[hL7.at_]at hfr;cases hfr
    exact uM (by rw[iM hne];exact View.ah _ _ _) (hrep _)
   ·obtain⟨c1,c2⟩:=hL7.box (.slice x.a x.n x.c)
    refine⟨c1,hVU.trans c2.le,fun r hr=> ?_⟩
    have hfr:=View.ax hr
    have hle:=View.bB (o:= .cells ⟨[.int .i64 k,.int .i64 (z/16),.int .i64 ((t.getD k default).an.getD (z/16).toNat 0),.int .i64 (z%16),.int .i64 0,.slice none 0 0]⟩ 77 (0,0)) hfr
    exact⟨(hVU.trans c2.le).trans hle,rfl,c2.grow hle,uM (View.ah _ _ _) (hrep _)⟩
   ·rintro⟨l,e,⟨⟩⟩ V9 ⟨he,hL9,hl⟩
    have he:e=0:=he
    have hl:SlR V9 l [(⟨k,z/16,(t.getD k default).an.getD (z/16).toNat 0,z%16,0,[]⟩:Tod)]:=hl
    subst he
    exact⟨x,hL9.cells,x,l,rfl,hU7.mono hL9.le,hl,hVU.trans hL9.le⟩
  ·have hb:=of_decide_eq_false hb
   have hE:gq (t.getD k default) k z= []:=by unfold gq;rw[if_neg hb]
   rw[hE]
   obtain⟨c1,c2⟩:=hL7.box (.slice x.a x.n x.c)
   exact⟨c1,x,c2.cells,x,⟨none,0,0⟩,rfl,hU7.mono c2.le,SlR.nil _ _ _,hX7.vle.trans c2.le⟩
end Go.Proofs.YtoogangnldppaaaGreatDoor
/- What the executor asks of these functions, written out. (Printed by wip/tools/gen.py.) -/
set_option maxRecDepth 100000
set_option linter.unusedVariables false
namespace Go.Proofs.YtoogangnldppaaaGreatDoor
open Go
variable [DrK]
def HP (V:View) (Q:Value→View→Prop):Prop:=
 aG [K.sl,K.int .i64] (fun(x:Sl) (x_1:Int) (V:View) (J:c7 [K.sl,K.int .i64])=>br (decide (x_1<4)) (b7 V (Obj.cells (Array.mk (bD [.int .i64 0] (0:Nat) [.int .i64 (-1)])) (3:Nat)) fun r V=>apV V (3:Nat) (1:Nat) (8:Nat) [.int .i64 0] (Sl.mk x.a x.n x.c) (.slice (some (Addr.mk r 0 none)) (1:Nat) (1:Nat)) fun s V=>inI .i64 (x_1+1)∧J (Sl.mk s.a s.n s.c) (x_1+1) V) (Q (.slice x.a x.n x.c) V)) (Sl.mk none (0:Nat) (0:Nat),(0:Int),()) V
def Li:AC:=(.seq qd (.seq qd (.seq (.seq qd (.block none (.loop ⟨(rg 3 5),[(1,.sl),(2,.int .i64)],[]⟩ (.seq qd (.seq (.cond none .leaf .leaf) (.seq (.block none qd) qd)))))) (.seq qd .leaf))))
theorem M5 {_u:Unit} {V:View} {Q:Value→View→Prop} (h:HP V Q):af Tryz.prog 46 ⟨[]⟩ V Q:=
 obx false Tryz.f46 Li (by kernel_rfl) (by kernel_rfl) (by kernel_rfl) (by kernel_rfl) h
end Go.Proofs.YtoogangnldppaaaGreatDoor
/- Contracts of handles of which none is open; of names of entries. -/
namespace Go.Proofs.YtoogangnldppaaaGreatDoor
open Go
def iY:List Int:= [-1, -1, -1, -1]
theorem Lj {V:View} :af Tryz.prog 94 ⟨[.int .u64 (IntKind.wrap .u64 ((1:Nat):Int)),.int .u64 (IntKind.wrap .u64 4)]⟩ V fun r V' =>r= .tuple ⟨[.int .u64 0,.int .u64 4]⟩∧V' =V:=by
 refine MU ?_
 unfold HG
 refine af.mono (K:=fun r V' =>r= .tuple ⟨[.int .u64 0,.int .u64 4]⟩∧V' =V) ?_ ?_
 ·refine Ko ?_
  unfold Ca
  refine⟨by decide,by decide,by decide,by decide,by decide, ?_,rfl⟩
  congr 4
 ·rintro r V' ⟨rfl,rfl⟩
  exact⟨_,_,rfl,rfl,rfl⟩
def At (i:Nat):List Value:=List.replicate i (.int .i64 (-1))++List.replicate (4-i) (.int .i64 0)
theorem yu {V:View} {r0:Nat} {e:TypeId} (h0:V.see r0=some (.cells ⟨[.int .i64 (-1)]⟩ e (0,0))):af Tryz.prog 62 ⟨[.slice (some ⟨r0,0,none⟩) 1 1,.int .i64 4]⟩ V fun r V' =>∃x:Sl,r= .slice x.a x.n x.c∧SlR V' x iY∧V.Le V' :=by
 refine Mo (a0:=⟨some ⟨r0,0,none⟩,1,1⟩) ?_
 unfold G4
 refine ai (fun _ V1=>V1=V) rfl ?_
 rintro⟨⟩ V1 rfl
 dsimp only [unc]
 refine Lj.mono ?_
 rintro r V2 ⟨rfl,rfl⟩
 refine⟨_,_,rfl,ai (fun _ V1=>V1=V2) rfl ?_⟩
 rintro⟨⟩ V3 rfl
 dsimp only [unc]
 refine⟨au (by decide) (by decide),by decide,by decide,by decide,by decide,fun r hr=> ?_⟩
 have hfr:=View.ax hr
 have hs0:(V3.put r (.cells ⟨At 0⟩ 3 (0,0))).see r=some (.cells ⟨At 0⟩ 3 (0,0)):=View.ah _ _ _
 refine⟨[.int .i64 (-1)],⟨rfl,cQ ((View.bB hfr).see _ _ h0) (fun j v hj=>by simpa using hj)⟩,rfl,bJ hs0 (by decide), ?_⟩
 have hle:∀(V4:View) cs,(V3.Le (V4.bt r))→V3.Le ((V4.put r (.cells ⟨cs⟩ 3 (0,0))).bt r):=fun V4 cs h=>h.trans (aU r _)
 refine bh (k:= .int .i64) (fun(x:Int) V4=>∃i:Nat,x=i∧(i=1∨i=2∨i=4)∧V4.see r=some (.cells ⟨At i⟩ 3 (0,0))∧V3.Le (V4.bt r)) (fun(x:Int) _=>4-x.toNat) ⟨1,rfl,.inl rfl, ?_, ?_⟩ ?_
 ·show((V3.put r (.cells ⟨At 0⟩ 3 (0,0))).sets ⟨r,0,none⟩ [.int .i64 (-1)]).see r=_
  rw[bn hs0,View.ah];rfl
 ·show V3.Le (((V3.put r (.cells ⟨At 0⟩ 3 (0,0))).sets ⟨r,0,none⟩ [.int .i64 (-1)]).bt r)
  rw[bn hs0];exact hle _ _ (aT hfr (View.Le.refl _))
 rintro(x:Int) V4 ⟨i,rfl,hi,hs,hV⟩
 have hrow:∀k,k≤i→rowAt V4 (some ⟨r,0,none⟩) (k*1) (List.replicate k (.int .i64 (-1))):=fun k hk=>
  ⟨by simp,cQ hs fun j v hj=>by
   have hjk:j<k:=by have:=(List.getElem?_eq_some_iff.1 hj).1;simpa using this
   unfold At
   rw[List.getElem?_replicate,if_pos hjk]at hj
   show(List.replicate i _++_)[0+j]? =_
   rw[Nat.zero_add,List.getElem?_append_left (by simp;omega),List.getElem?_replicate,if_pos (by omega)];exact hj⟩
 rcases hi with rfl | rfl | rfl
 ·refine⟨trivial,by decide,by decide,by decide,by decide,by decide,by decide,[.int .i64 (-1)],hrow 1 (by decide),rfl,bJ (off:=1) hs (by decide),au (by decide) (by decide),⟨2,rfl,.inr (.inl rfl), ?_, ?_⟩,by decide⟩
  ·show(V4.sets ⟨r,1,none⟩ _).see r=_
   rw[bn hs,View.ah];rfl
  ·show V3.Le ((V4.sets ⟨r,1,none⟩ _).bt r)
   rw[bn hs];exact hle _ _ hV
 ·refine⟨trivial,by decide,by decide,by decide,by decide,by decide,by decide,[.int .i64 (-1),.int .i64 (-1)],hrow 2 (by decide),rfl,bJ (off:=2) hs (by decide),au (by decide) (by decide),⟨4,rfl,.inr (.inr rfl), ?_, ?_⟩,by decide⟩
  ·show(V4.sets ⟨r,2,none⟩ _).see r=_
   rw[bn hs,View.ah];rfl
  ·show V3.Le ((V4.sets ⟨r,2,none⟩ _).bt r)
   rw[bn hs];exact hle _ _ hV
 ·exact⟨⟨some ⟨r,0,none⟩,4,4⟩,rfl,bK (W:=V4) (l:=iY) hs ⟨[.int .i64 (-1)],_,rfl,⟨rfl,au (by decide) (by decide)⟩,[.int .i64 (-1)],_,rfl,⟨rfl,au (by decide) (by decide)⟩,[.int .i64 (-1)],_,rfl,⟨rfl,au (by decide) (by decide)⟩,[.int .i64 (-1)],_,rfl,⟨rfl,au (by decide) (by decide)⟩,rfl⟩ (View.Le.refl _) (by decide),hV.trans (View.c6 _ _)⟩
theorem qX {V:View} :af Tryz.prog 33 ⟨[]⟩ V fun r V' =>∃x:Sl,r= .slice x.a x.n x.c∧SlR V' x iY∧V.Le V' :=by
 refine L0 (_u:=()) ?_
 unfold GC
 intro r hr
 refine(yu (View.ah _ _ _)).mono ?_
 rintro r V1 ⟨x,rfl,hx,hV⟩
 exact⟨x,rfl,x,rfl,hx,(View.bB (View.ax hr)).trans hV⟩
theorem lP {V:View} :af Tryz.prog 46 ⟨[]⟩ V fun r V' =>∃x:Sl,r= .slice x.a x.n x.c∧SlR V' x iY∧V.Le V' :=by
 refine M5 (_u:=()) ?_
 unfold HP
 refine di (k:= .sl) (l:= .int .i64) (fun(x:Sl) (j:Int) V1=>∃(i:Nat) (cs:List Value),j=i∧i≤4∧Buf V1 x 3 (Rep.sz Int) cs∧aR (V1.minus x) cs (List.replicate i (-1:Int))∧V.Le (V1.minus x)) (fun _ (j:Int) _=>4-j.toNat) ⟨0,[],rfl,by decide,Buf.nil _ _ _,rfl,View.Le.refl _⟩ ?_
 rintro(x:Sl) (j:Int) V1 ⟨i,cs,rfl,hi,hB,hR,hle⟩
 refine aa (fun hlt=> ?_) (fun hge=> ?_)
 ·have hlt:i<4:=by have:=of_decide_eq_true hlt;omega
  intro r hr
  have hn:=hB.n_eq (α:=Int) hR
  rw[List.length_replicate]at hn
  refine pn (α:=Int) (d:= -1) rfl hB hR ⟨rfl,au (by decide) (by decide)⟩ hle hr rfl (by show(x.n+1)*8≤_;omega) (by show x.n+1≤_;omega) fun z V2 cs2 h1 h2 h3=> ?_
  exact⟨au (by omega) (by omega),⟨i+1,cs2,by omega,by omega,h1,by rw[List.replicate_succ'];exact h2,h3⟩,by omega⟩
 ·have hge:i=4:=by have:=of_decide_eq_false hge;omega
  subst hge
  exact⟨x,rfl,hB.slR hR (View.aj _ _),hle.trans (View.aj _ _)⟩
theorem Au {s:Sl} {l:List Ent} {V:View} (h:SlR V s l) (hl:l.length≤1000):af Tryz.prog 103 ⟨[.slice s.a s.n s.c]⟩ V fun r V' =>∃x:Sl,r= .slice x.a x.n x.c∧SlR V' x (l.map Ent.name)∧V.Le V' :=by
 refine JO ?_
 unfold Bx
 have hsn:=h.n
 refine di (k:= .sl) (l:= .int .i64) (fun(x:Sl) (j:Int) V1=>∃(i:Nat) (cs:List Value),j=i∧i≤l.length∧Buf V1 x 9 (Rep.sz ByteArray) cs∧aR (V1.minus x) cs ((l.take i).map Ent.name)∧V.Le (V1.minus x)) (fun _ (j:Int) _=>l.length-j.toNat) ⟨0,[],rfl,by omega,Buf.nil _ _ _,rfl,View.Le.refl _⟩ ?_
 rintro(x:Sl) (j:Int) V1 ⟨i,cs,rfl,hi,hB,hR,hle⟩
 refine aa (fun hlt=> ?_) (fun hge=> ?_)
 ·have hlt:i<l.length:=by have:=of_decide_eq_true hlt;omega
  obtain⟨ad,ha,hc,hz,_⟩:=(h.mono (hle.trans (View.aj _ _))).lZ hlt
  have hn:=hB.n_eq (α:=ByteArray) hR
  rw[List.length_map,List.length_take]at hn
  refine⟨by omega,by omega,ad,ha,_,_,hc,fun _ r hr=> ?_⟩
  refine pn (α:=ByteArray) (d:=(l.getD i default).name) rfl hB hR ⟨rfl,hz⟩ hle hr rfl (by show(x.n+1)*16≤_;omega) (by show x.n+1≤_;omega) fun z V2 cs2 h1 h2 h3=> ?_
  exact⟨au (by omega) (by omega),⟨i+1,cs2,by omega,by omega,h1,by rw[eI hlt,List.map_append];exact h2,h3⟩,by omega⟩
 ·have hge:i=l.length:=by have:=of_decide_eq_false hge;omega
  subst hge
  rw[List.take_length]at hR
  exact⟨x,rfl,hB.slR hR (View.aj _ _),hle.trans (View.aj _ _)⟩
structure Mv (B:Nat→Prop) (V0 V V0' V' :View):Prop where
 pre:V0.Le V
 base:V0.Le V0'
 sub:V0'.Le V'
 apart:∀i,V0.see i=none→V.see i≠none→V0'.see i=none
 rest:∀i o,¬B i→V.see i=some o→V'.see i=some o
 keep:∀i,V.see i≠none→V'.see i≠none
 size:V.size≤V'.size
theorem Mv.refl {B:Nat→Prop} {V0 V:View} (h:V0.Le V):Mv B V0 V V0 V:=⟨h,View.Le.refl _,h,fun _ h _=>h,fun _ _ _ h=>h,fun _ h=>h,Nat.le_refl _⟩
theorem Mv.trans {B:Nat→Prop} {V0 V V1 V' V2 V'' :View} (h:Mv B V0 V V1 V') (k:Mv B V1 V' V2 V''):Mv B V0 V V2 V'' :=
 ⟨h.pre,h.base.trans k.base,k.sub,fun i a b=>k.apart i (h.apart i a b) (h.keep i b),fun i o a b=>k.rest i o a (h.rest i o a b),fun i a=>k.keep i (h.keep i a),Nat.le_trans h.size k.size⟩
theorem Mv.out {B:Nat→Prop} {V0 V V0' V' :View} (h:Mv B V0 V V0' V'):V'.out=V.out:=h.sub.out.trans (h.base.out.trans h.pre.out.symm)
theorem Mv.weaken {B B' :Nat→Prop} {V0 V V0' V' :View} (h:Mv B V0 V V0' V') (hB:∀i,B i→B' i∨V.see i=none):Mv B' V0 V V0' V' :=
 ⟨h.pre,h.base,h.sub,h.apart,fun i o a b=>h.rest i o (fun hi=>(hB i hi).elim a (fun e=>by rw[e]at b;cases b)) b,h.keep,h.size⟩
theorem Mv.le {B:Nat→Prop} {V0 V V0' V' :View} (h:Mv B V0 V V0' V') (hB:∀i,B i→V.see i=none):V.Le V' :=
 ⟨h.size,fun i o ho=>h.rest i o (fun hi=>by rw[hB i hi]at ho;cases ho) ho,h.out⟩
theorem Mv.grow {B:Nat→Prop} {V0 V V' :View} (h:V0.Le V) (hV:V.Le V'):Mv B V0 V V0 V' :=
 ⟨h,View.Le.refl _,h.trans hV,fun _ h _=>h,fun i o _ ho=>hV.see i o ho,fun i hi=>by
   cases hs:V.see i with
   | none=>exact absurd hs hi
   | some o=>rw[hV.see i o hs];simp,hV.size⟩
theorem Mv.put {B:Nat→Prop} {V0 V:View} {r:Nat} (o:Obj) (h:V0.Le V) (hn:V0.see r=none) (hr:B r∨V.see r=none):Mv B V0 V V0 (V.put r o):=by
 refine⟨h,View.Le.refl _,⟨Nat.le_trans h.size (Nat.le_max_left _ _),fun i o' hi=> ?_,h.out⟩,fun _ h _=>h,fun i o' hb hi=> ?_,fun i hi=> ?_,Nat.le_max_left _ _⟩
 ·have hne:i≠r:=fun e=>by rw[e,hn]at hi;cases hi
  rw[View.aF _ _ hne];exact h.see _ _ hi
 ·have hne:i≠r:=by
   rintro rfl
   rcases hr with h1 | h1
   ·exact hb h1
   ·rw[h1]at hi;cases hi
  rw[View.aF _ _ hne];exact hi
 ·by_cases e:i=r
  ·subst e;rw[View.ah];simp
  ·rw[View.aF _ _ e];exact hi
theorem Mv.new {B:Nat→Prop} {V0 V:View} {r:Nat} (o:Obj) (h:V0.Le V) (hr:V.see r=none):Mv B V0 V (V0.put r o) (V.put r o):=by
 have hn:=b5 h hr
 refine⟨h,View.bB hn, ?_,fun i hi hv=> ?_,fun i o' _ hi=>(View.bB hr).see _ _ hi,fun i hi=> ?_,Nat.le_max_left _ _⟩
 ·refine⟨?_,fun i o' hi=> ?_,h.out⟩
  ·show max V0.size _≤max V.size _
   have:=h.size;omega
  ·by_cases e:i=r
   ·subst e;rw[View.ah]at hi ⊢;exact hi
   ·rw[View.aF _ _ e]at hi ⊢;exact h.see _ _ hi
 ·have e:i≠r:=fun e=>hv (by rw[e];exact hr)
  rw[View.aF _ _ e];exact hi
 ·by_cases e:i=r
  ·subst e;exact absurd hr hi
  ·rw[View.aF _ _ e];exact hi
theorem Mv.share {B:Nat→Prop} {V0 V V0' V' :View} {r:Nat} {o:Obj} (h:Mv B V0 V V0' V') (hr:V.see r=none) (ho:V'.see r=some o) (hn:V0'.see r=none):Mv B V0 V (V0'.put r o) V' :=by
 refine⟨h.pre,h.base.trans (View.bB hn), ?_,fun i hi hv=> ?_,h.rest,h.keep,h.size⟩
 ·refine⟨?_,fun i o' hi=> ?_,h.sub.out⟩
  ·show max V0'.size _≤_
   have:=h.sub.size
   have:=V'.lt r o ho
   omega
  ·by_cases e:i=r
   ·subst e;rw[View.ah]at hi;rw[←hi];exact ho
   ·rw[View.aF _ _ e]at hi;exact h.sub.see _ _ hi
 ·have e:i≠r:=fun e=>hv (by rw[e];exact hr)
  rw[View.aF _ _ e];exact h.apart i hi hv
theorem af.stp {P:Program} {f:FuncId} {args:Array Value} {B:Nat→Prop} {V0 V:View} {K:Value→View→Prop} (hU:V0.Le V) (h:af P f args V0 fun r U' =>K r U' ∧V0.Le U'):
  af P f args V fun r V' =>∃V0',K r V0' ∧Mv B V0 V V0' V' ∧V.Le V' :=by
 refine(af.xK hU h).mono ?_
 rintro r V' ⟨U',h1,h2,h3,h4,h5⟩
 refine⟨U',h1,⟨hU,h2,h3,fun i a b=> ?_,fun i o _ ho=>h4.see i o ho,fun i hi=> ?_,h4.size⟩,h4⟩
 ·cases hs:V.see i with
  | none=>exact absurd hs b
  | some o=>exact h5 i o a hs
 ·cases hs:V.see i with
  | none=>exact absurd hs hi
  | some o=>rw[h4.see i o hs];simp
theorem bx {V:View} {p:Nat} {cs:List Value} {e:TypeId} {f:Nat×Nat} (h:V.see p=some (.cells ⟨cs⟩ e f)) (j:Nat) {v:Value} (hj:cs[j]? =some v):V.cell? ((⟨p,0,none⟩:Addr).add j)=some v:=by
 rw[aW];exact bX h (by simpa using hj)
theorem bx1 {V:View} {p:Nat} {cs:List Value} {e:TypeId} {f:Nat×Nat} (h:V.see p=some (.cells ⟨cs⟩ e f)) (j:Nat) {v:Value} (hj:cs[j]? =some v):aq V ((⟨p,0,none⟩:Addr).add j) [v]:=bT.2 (bx h j hj)
theorem bxc {V:View} {p:Nat} {cs:List Value} {e:TypeId} (h:V.see p=some (.cells ⟨cs⟩ e (0,0))) (j k:Nat) (hj:j+k≤cs.length):ay V ((⟨p,0,none⟩:Addr).add j) k:=by
 rw[aW];exact bJ h (by omega)
theorem bxe {V:View} {p:Nat} {cs:List Value} {e:TypeId} (h:V.see p=some (.cells ⟨cs⟩ e (0,0))) (j:Nat) (vs:List Value):V.sets ((⟨p,0,none⟩:Addr).add j) vs=V.put p (.cells ⟨bD cs j vs⟩ e (0,0)):=by
 rw[aW,bn h,Nat.zero_add]
theorem View.uO (V:View) (p:Nat) (o o' :Obj):(V.put p o).put p o' =V.put p o' :=by
 unfold View.put
 congr 1
 ·simp
 ·funext j
  by_cases h:j=p
  ·simp [h]
  ·simp [h]
def cY (h:List Int):Bool:= !decide (h.length=4) ||h.any fun n=>decide (n< -1) ||decide (12≤n)
def ofH (h:List Int) (i:Int):Except Int Int:=
 if cY h=true then .error 1 else if i<0∨(h.length:Int)≤i∨h.getD i.toNat 0= -1 then .error 15 else .ok (h.getD i.toNat 0)
def dO (h:List Int) (i:Int):Except Int (List Int×Int):=match ofH h i with
 | .error e=> .error e
 | .ok n=> .ok (h.set i.toNat (-1),n)
def eV (h:List Int) (node:Int):Except Int (List Int×Int):=
 if cY h=true∨node<0∨12≤node then .error 1 else if eR (fun n=>decide (-1=n)) h<0 then .error 15 else
  .ok (h.set (eR (fun n=>decide (-1=n)) h).toNat node,eR (fun n=>decide (-1=n)) h)
def de (h:List Int):List Bool:=if cY h=true then []else(List.range 12).map fun(i:Nat)=>decide ((i:Int)∈h)
def M6:Except Int Int→Value
 | .ok v=> .tuple ⟨[.int .i64 v,.int .i64 0]⟩
 | .error e=> .tuple ⟨[.int .i64 0,.int .i64 e]⟩
def wH (V V' :View) (r:Value):Except Int (List Int×Int)→Prop
 | .ok (l,n)=>∃x:Sl,r= .tuple ⟨[.slice x.a x.n x.c,.int .i64 n,.int .i64 0]⟩∧SlR V' x l∧V.Le V'
 | .error e=>r= .tuple ⟨[.slice none 0 0,.int .i64 0,.int .i64 e]⟩∧V' =V
theorem cT {h:List Int} (ho:cY h=false):h.length=4:=by
 unfold cY at ho
 exact of_decide_eq_true (aD (Bool.or_eq_false_iff.1 ho).1)
theorem jC {h:List Int} (ho:cY h=false) {n:Int} (hn:n∈h): -1≤n∧n<12:=by
 unfold cY at ho
 have:=List.any_eq_false.1 (Bool.or_eq_false_iff.1 ho).2 n hn
 simp at this
 omega
theorem ot {h:List Int} {i:Nat} (hi:i<h.length):h.getD i 0∈h:=by
 rw[bY hi];exact List.getElem_mem hi
theorem nG {h:List Int} (ho:cY h=false) {i:Nat} (hi:i<4): -1≤h.getD i 0∧h.getD i 0<12:=
 jC ho (ot (by rw[cT ho];exact hi))
theorem qY {h:List Int} {i n:Int} (e:ofH h i= .ok n):cY h=false∧0≤i∧i<4∧n=h.getD i.toNat 0∧0≤n∧n<12:=by
 unfold ofH at e
 split at e
 ·cases e
 ·rename_i ho
  have ho:cY h=false:=Bool.eq_false_iff.2 ho
  split at e
  ·cases e
  ·rename_i hc
   injection e with e
   have hl:=cT ho
   have:=nG ho (i:=i.toNat) (by omega)
   refine⟨ho,by omega,by omega,e.symm, ?_, ?_⟩<;>omega
theorem rZ {p:Int→Bool} {s:Sl} {l:List Int} {V:View} {g:FuncId} {xs ys:List Value} (h:SlR V s l)
  (hp:∀b∈l,af Tryz.prog g ⟨xs++ [.int .i64 b]++ys⟩ V fun r V' =>r= .bool (p b)∧V' =V):
  af Tryz.prog 183 ⟨[.slice s.a s.n s.c,.func (.func g) ⟨xs⟩ ⟨ys⟩]⟩ V fun r V' =>r= .int .i64 (eR p l)∧V' =V:=by
 refine K2 ?_
 unfold CO
 have hn:=h.n;have hlim:=h.lim
 refine bh (k:= .int .i64) (fun(x:Int) V' =>V' =V∧0≤x∧x≤s.n∧∀j (hj:j<l.length),(j:Int)<x→p l[j]=false) (fun(x:Int) _=>s.n-x.toNat) ⟨rfl,by omega,by omega,fun j _ hj=>by omega⟩ ?_
 rintro(x:Int) V' ⟨rfl,h0,h1,h2⟩
 refine aa (fun hlt=> ?_) (fun hge=> ?_)
 ·have hlt:x<s.n:=by simpa using hlt
  obtain⟨ad,hx,ha,hc,_⟩:=h.int h0 hlt
  refine⟨h0,hlt,ad,ha,_,hc,(hp _ (List.getElem_mem hx)).mono ?_⟩
  rintro r V1 ⟨rfl,rfl⟩
  refine⟨_,rfl,aa (fun hb=>⟨?_,rfl⟩) (fun hb=>⟨au (by omega) (by omega),⟨rfl,by omega,by omega,fun j hj hjx=> ?_⟩,by omega⟩)⟩
  ·rw[eu p l x.toNat hx (fun j hj=>h2 j (by omega) (by omega)) hb]
   congr 1;omega
  ·by_cases e:(j:Int)<x
   ·exact h2 j hj e
   ·have:j=x.toNat:=by omega
    subst this;exact hb
 ·have hge:¬x<s.n:=by simpa using hge
  refine⟨?_,rfl⟩
  rw[fk p l fun y hy=> ?_]
  obtain⟨j,hj,rfl⟩:=List.getElem_of_mem hy
  exact h2 j hj (by omega)
theorem ou {p:Int→Bool} {s:Sl} {l:List Int} {V:View} {g:FuncId} {xs ys:List Value} (h:SlR V s l)
  (hp:∀b∈l,af Tryz.prog g ⟨xs++ [.int .i64 b]++ys⟩ V fun r V' =>r= .bool (p b)∧V' =V):
  af Tryz.prog 166 ⟨[.slice s.a s.n s.c,.func (.func g) ⟨xs⟩ ⟨ys⟩]⟩ V fun r V' =>r= .bool (l.any p)∧V' =V:=by
 refine KN ?_
 unfold Cz
 refine(rZ h hp).mono ?_
 rintro r V' ⟨rfl,rfl⟩
 refine⟨_,rfl, ?_,rfl⟩
 congr 1
 rcases gh p l with ⟨h1,h2⟩ | ⟨h1,h2,h3⟩
 ·rw[h1,h2];rfl
 ·rw[h3];simpa using h1
theorem Av {s:Sl} {l:List Int} {v:Int} {V:View} (h:SlR V s l):
  af Tryz.prog 153 ⟨[.slice s.a s.n s.c,.int .i64 v]⟩ V fun r V' =>r= .int .i64 (eR (fun n=>decide (v=n)) l)∧V' =V:=by
 refine KA ?_
 unfold Cm
 have hn:=h.n;have hlim:=h.lim
 refine bh (k:= .int .i64) (fun(x:Int) V' =>V' =V∧0≤x∧x≤s.n∧∀j (hj:j<l.length),(j:Int)<x→decide (v=l[j])=false) (fun(x:Int) _=>s.n-x.toNat) ⟨rfl,by omega,by omega,fun j _ hj=>by omega⟩ ?_
 rintro(x:Int) V' ⟨rfl,h0,h1,h2⟩
 refine aa (fun hlt=> ?_) (fun hge=> ?_)
 ·have hlt:x<s.n:=by simpa using hlt
  obtain⟨ad,hx,ha,hc,_⟩:=h.int h0 hlt
  refine⟨h0,hlt,ad,ha,_,hc,aa (fun hb=>⟨?_,rfl⟩) (fun hb=>⟨au (by omega) (by omega),⟨rfl,by omega,by omega,fun j hj hjx=> ?_⟩,by omega⟩)⟩
  ·rw[eu (fun n=>decide (v=n)) l x.toNat hx (fun j hj=>h2 j (by omega) (by omega)) hb]
   congr 1;omega
  ·by_cases e:(j:Int)<x
   ·exact h2 j hj e
   ·have:j=x.toNat:=by omega
    subst this;exact hb
 ·have hge:¬x<s.n:=by simpa using hge
  refine⟨?_,rfl⟩
  rw[fk (fun n=>decide (v=n)) l fun y hy=> ?_]
  obtain⟨j,hj,rfl⟩:=List.getElem_of_mem hy
  exact h2 j hj (by omega)
theorem F0 {n:Int} {V:View} :af Tryz.prog 167 ⟨[.int .i64 n]⟩ V fun r V' =>r= .bool (decide (n< -1) ||decide (12≤n))∧V' =V:=by
 refine KO ?_
 unfold CA
 refine⟨?_,rfl⟩
 cases decide (n< -1)<;>rfl
theorem mD {s:Sl} {h:List Int} {V:View} (hs:SlR V s h):af Tryz.prog 142 ⟨[.slice s.a s.n s.c]⟩ V fun r V' =>r= .bool (cY h)∧V' =V:=by
 refine Kp ?_
 unfold Cb
 have hn:=hs.n
 refine ai (fun q V' =>q.1=cY h∧V' =V) (aa (fun hb=>⟨?_,rfl⟩) (fun hb=>(ou (xs:= []) (ys:= []) (p:=fun n=>decide (n< -1) ||decide (12≤n)) hs fun b _=>F0).mono ?_)) ?_
 ·have:=of_decide_eq_false (aM hb)
  unfold cY
  rw[decide_eq_false (show ¬h.length=4 by omega)];rfl
 ·rintro r V' ⟨rfl,rfl⟩
  refine⟨_,rfl, ?_,rfl⟩
  have:=of_decide_eq_true (aD hb)
  unfold cY
  rw[decide_eq_true (show h.length=4 by omega)];rfl
 rintro⟨q,⟨⟩⟩ V' ⟨h1,hV⟩
 have h1:q=cY h:=h1
 have hV:V' =V:=hV
 subst h1 hV
 exact⟨rfl,rfl⟩
theorem iD {s:Sl} {h:List Int} {V:View} (hs:SlR V s h):af Tryz.prog 87 ⟨[.slice s.a s.n s.c]⟩ V fun r V' =>r= .bool (!cY h)∧V' =V:=by
 refine MN ?_
 unfold HA
 have hn:=hs.n;have hlim:=hs.lim
 refine bh (k:= .int .i64) (fun(x:Int) V' =>V' =V∧0≤x∧x≤s.n∧∀j (hj:j<h.length),(j:Int)<x→ -1≤h[j]∧h[j]<12) (fun(x:Int) _=>s.n-x.toNat) ⟨rfl,by omega,by omega,fun j _ hj=>by omega⟩ ?_
 rintro(x:Int) V' ⟨rfl,h0,h1,h2⟩
 refine aa (fun hlt=> ?_) (fun hge=> ?_)
 ·have hlt:x<s.n:=by simpa using hlt
  obtain⟨ad,hx,ha,hc,_⟩:=hs.int h0 hlt
  refine⟨h0,hlt,ad,ha,_,hc,aa (fun hb=>⟨?_,rfl⟩) (fun hb=>⟨au (by omega) (by omega),⟨rfl,by omega,by omega,fun j hj hjx=> ?_⟩,by omega⟩)⟩
  ·have:cY h=true:=by
    unfold cY
    rw[Bool.or_eq_true]
    refine .inr (List.any_eq_true.2 ⟨_,List.getElem_mem hx, ?_⟩)
    simpa using hb
   rw[this];rfl
  ·by_cases e:(j:Int)<x
   ·exact h2 j hj e
   ·have:j=x.toNat:=by omega
    subst this
    simp at hb
    omega
 ·have hge:¬x<s.n:=by simpa using hge
  refine⟨?_,rfl⟩
  have:(h.any fun n=>decide (n< -1) ||decide (12≤n))=false:=by
   refine List.any_eq_false.2 fun y hy=> ?_
   obtain⟨j,hj,rfl⟩:=List.getElem_of_mem hy
   have:=h2 j hj (by omega)
   simp
   omega
  unfold cY
  rw[this,hn]
  simp
  omega
theorem tw {s:Sl} {h:List Int} {i:Int} {V:View} (hs:SlR V s h):af Tryz.prog 106 ⟨[.slice s.a s.n s.c,.int .i64 i]⟩ V fun r V' =>r=M6 (ofH h i)∧V' =V:=by
 refine JR ?_
 unfold BA
 have hn:=hs.n
 refine(mD hs).mono ?_
 rintro r V' ⟨rfl,rfl⟩
 refine⟨_,rfl,aa (fun ho=>⟨by unfold ofH;rw[if_pos ho];rfl,rfl⟩) (fun ho=> ?_)⟩
 refine ai (fun q V1=>q.1=decide (i<0∨(h.length:Int)≤i∨h.getD i.toNat 0= -1)∧V1=V') (aa (fun hb=>⟨?_,rfl⟩) (fun hb=> ?_)) ?_
 ·refine(decide_eq_true ?_).symm
  simp at hb
  omega
 ·simp at hb
  obtain⟨ad,ha,hc,_⟩:=hs.fD (i:=i.toNat) (by omega)
  refine⟨by omega,by omega,ad,ha,_,hc, ?_,rfl⟩
  refine decide_eq_decide.2 ⟨fun h=> .inr (.inr h), ?_⟩
  rintro(h | h | h)
  ·omega
  ·omega
  ·exact h
 rintro⟨q,⟨⟩⟩ V1 ⟨h1,hV⟩
 have h1:q=decide (i<0∨(h.length:Int)≤i∨h.getD i.toNat 0= -1):=h1
 have hV:V1=V' :=hV
 subst h1 hV
 dsimp only [unc]
 have hE:ofH h i=if i<0∨(h.length:Int)≤i∨h.getD i.toNat 0= -1 then .error 15 else .ok (h.getD i.toNat 0):=by
  unfold ofH;rw[if_neg (by rw[ho];decide)]
 refine aa (fun hb=>⟨by rw[hE,if_pos (of_decide_eq_true hb)];rfl,rfl⟩) (fun hb=> ?_)
 have hb:=of_decide_eq_false hb
 obtain⟨ad,ha,hc,_⟩:=hs.fD (i:=i.toNat) (by omega)
 exact⟨by omega,by omega,ad,ha,_,hc,by rw[hE,if_neg hb];rfl,rfl⟩
theorem wI {s:Sl} {h:List Int} {i:Int} {V:View} (hs:SlR V s h):af Tryz.prog 86 ⟨[.slice s.a s.n s.c,.int .i64 i]⟩ V fun r V' =>r=M6 (ofH h i)∧V' =V:=by
 refine MM ?_
 unfold Hz
 have hn:=hs.n
 refine(iD hs).mono ?_
 rintro r V' ⟨rfl,rfl⟩
 refine⟨_,rfl,aa (fun ho=>⟨by unfold ofH;rw[if_pos (by simpa using ho)];rfl,rfl⟩) (fun ho=> ?_)⟩
 have ho:cY h=false:=by simpa using ho
 refine ai (fun q V1=>q.1=decide (i<0∨(h.length:Int)≤i∨h.getD i.toNat 0= -1)∧V1=V') (aa (fun hb=>⟨?_,rfl⟩) (fun hb=> ?_)) ?_
 ·refine(decide_eq_true ?_).symm
  simp at hb
  omega
 ·simp at hb
  have hl:=cT ho
  have hg:=nG ho (i:=i.toNat) (by omega)
  obtain⟨ad,ha,hc,_⟩:=hs.fD (i:=i.toNat) (by omega)
  refine⟨by omega,by omega,ad,ha,_,hc, ?_,rfl⟩
  refine decide_eq_decide.2 ⟨fun h=> .inr (.inr (by omega)), ?_⟩
  rintro(h | h | h)<;>omega
 rintro⟨q,⟨⟩⟩ V1 ⟨h1,hV⟩
 have h1:q=decide (i<0∨(h.length:Int)≤i∨h.getD i.toNat 0= -1):=h1
 have hV:V1=V' :=hV
 subst h1 hV
 dsimp only [unc]
 have hE:ofH h i=if i<0∨(h.length:Int)≤i∨h.getD i.toNat 0= -1 then .error 15 else .ok (h.getD i.toNat 0):=by
  unfold ofH;rw[if_neg (by rw[ho];decide)]
 refine aa (fun hb=>⟨by rw[hE,if_pos (of_decide_eq_true hb)];rfl,rfl⟩) (fun hb=> ?_)
 have hb:=of_decide_eq_false hb
 obtain⟨ad,ha,hc,_⟩:=hs.fD (i:=i.toNat) (by omega)
 exact⟨by omega,by omega,ad,ha,_,hc,by rw[hE,if_neg hb];rfl,rfl⟩
theorem qZ {s:Sl} {l:List Int} {V:View} (h:SlR V s l) (hl:l.length≤1000):af Tryz.prog 56 ⟨[.slice s.a s.n s.c]⟩ V fun r V' =>∃(x:Sl) (cs:List Value),r= .slice x.a x.n x.c∧Buf V' x 3 (Rep.sz Int) cs∧aR (V'.minus x) cs l∧V.Le (V'.minus x):=by
 refine Bq ?_
 unfold zj
 refine aa (fun hnil=> ?_) (fun _ r hr=> ?_)
 ·have ha:s.a=none:=Option.isNone_iff_eq_none.1 hnil
  have hl0:l= []:=by
   cases l with
   | nil=>rfl
   | cons b l=>obtain⟨ad,vs,h1,_⟩:=h.get 0 (by simp);rw[ha]at h1;cases h1
  subst hl0
  exact⟨⟨none,0,0⟩,[],rfl,Buf.nil _ _ _,rfl,View.Le.refl V⟩
 ·have hfr:V.see r=none:=View.ax hr
  refine ew (α:=Int) (V0:=V) (l:= []) (m:=l) rfl (cs:= []) ⟨rfl,Nat.le_refl _,Nat.zero_le _,.inr ⟨r,[],rfl,View.ah _ _ _,rfl,rfl⟩⟩ rfl (h.mono ?_) ?_ (by simp;omega) (by simp;omega) ?_
  ·exact aT hfr (View.Le.refl _)
  ·exact aT hfr (View.Le.refl _)
  ·intro z V' cs' hb hr' hle
   exact⟨z,cs',rfl,hb,hr',hle⟩
theorem Buf.F1 {V0 V:View} {x:Sl} {cs:List Value} {l:List Int} (h:Buf V x 3 (Rep.sz Int) cs) (hr:aR (V.minus x) cs l) (hV:V0.Le (V.minus x)) {i:Nat} (hi:i<l.length) {v:Int} (hv:inI .i64 v):
  ∃ad,x.a=some ad∧ay V (ad.add (i*1)) 1∧SlR (V.sets (ad.add (i*1)) [.int .i64 v]) x (l.set i v)∧V0.Le (V.sets (ad.add (i*1)) [.int .i64 v]):=by
 obtain⟨ad,a,b,c,d,e⟩:=h.FF hr (vs:= [.int .i64 v]) (d:=v) ⟨rfl,hv⟩ hi
 exact⟨ad,a,b,c.slR d (View.aj _ _),hV.trans (e.trans (View.aj _ _))⟩
theorem zA {h:List Int} {i e:Int} (hf:ofH h i= .error e):e≠0:=by
 unfold ofH at hf
 split at hf
 ·injection hf with hf;omega
 ·split at hf
  ·injection hf with hf;omega
  ·cases hf
theorem tA {h:List Int} {node:Int} (ho:cY h=false) (h0:0≤node) (h1:node<12):eV h node=if eR (fun n=>decide (-1=n)) h<0 then .error 15 else
  .ok (h.set (eR (fun n=>decide (-1=n)) h).toNat node,eR (fun n=>decide (-1=n)) h):=by
 unfold eV
 rw[if_neg]
 rintro(a | a | a)
 ·rw[ho]at a;cases a
 ·omega
 ·omega
theorem wJ {s:Sl} {h:List Int} {node:Int} {V:View} (hs:SlR V s h):af Tryz.prog 104 ⟨[.slice s.a s.n s.c,.int .i64 node]⟩ V fun r V' =>wH V V' r (eV h node):=by
 refine JP ?_
 unfold By
 refine(mD hs).mono ?_
 rintro r V' ⟨rfl,rfl⟩
 refine⟨_,rfl,aa (fun hb=> ?_) (fun hb=> ?_)⟩
 ·have:cY h=true∨node<0∨12≤node:=by
   cases ho:cY h<;>simp [ho]at hb ⊢ <;>omega
  unfold eV;rw[if_pos this];exact⟨rfl,rfl⟩
 ·have hc:cY h=false∧0≤node∧node<12:=by
   cases ho:cY h<;>simp [ho]at hb ⊢ <;>omega
  obtain⟨ho,h0,h12⟩:=hc
  have hE:=tA ho h0 h12
  have hl:=cT ho
  refine(Av hs).mono ?_
  rintro r V1 ⟨rfl,rfl⟩
  refine⟨_,rfl,aa (fun hb=>by rw[hE,if_pos (of_decide_eq_true hb)];exact⟨rfl,rfl⟩) (fun hb=> ?_)⟩
  have hb:=of_decide_eq_false hb
  rw[hE,if_neg hb]
  rcases gh (fun n=>decide (-1=n)) h with ⟨a,_⟩ | ⟨a,b,_⟩
  ·omega
  generalize eR (fun n=>decide (-1=n)) h=k at*
  refine(qZ hs (by omega)).mono ?_
  rintro r V2 ⟨x,cs,rfl,b1,b2,b3⟩
  obtain⟨ad,h1,h2,h3,h4⟩:=b1.F1 b2 b3 (i:=k.toNat) (v:=node) (by omega) (au (by omega) (by omega))
  have hxn:=(b1.slR b2 (View.aj _ _)).n
  exact⟨x,rfl,a,by omega,ad,h1,h2,x,rfl,h3,h4⟩
theorem uP {s:Sl} {h:List Int} {i:Int} {V:View} (hs:SlR V s h):af Tryz.prog 105 ⟨[.slice s.a s.n s.c,.int .i64 i]⟩ V fun r V' =>wH V V' r (dO h i):=by
 refine JQ ?_
 unfold Bz
 refine(tw hs).mono ?_
 rintro r V' ⟨rfl,rfl⟩
 cases hof:ofH h i with
 | error e=>exact⟨_,_,rfl,aa (fun _=>by unfold dO;rw[hof];exact⟨rfl,rfl⟩) (fun hb=>absurd (of_decide_eq_true (aD hb)) (zA hof))⟩
 | ok n=>
   obtain⟨ho,h0,h4,_⟩:=qY hof
   have hl:=cT ho
   refine⟨_,_,rfl,aa (fun hb=>absurd hb (by decide)) fun _=>(qZ hs (by omega)).mono ?_⟩
   rintro r V2 ⟨x,cs,rfl,b1,b2,b3⟩
   obtain⟨ad,h1,h2,h3,h4'⟩:=b1.F1 b2 b3 (i:=i.toNat) (v:= -1) (by omega) (au (by omega) (by omega))
   have hxn:=(b1.slR b2 (View.aj _ _)).n
   refine⟨x,rfl,h0,by omega,ad,h1,h2, ?_⟩
   unfold dO;rw[hof]
   exact⟨x,rfl,h3,h4'⟩
theorem yw {s:Sl} {h:List Int} {node:Int} {V:View} (hs:SlR V s h):af Tryz.prog 85 ⟨[.slice s.a s.n s.c,.int .i64 node]⟩ V fun r V' =>wH V V' r (eV h node):=by
 refine ML ?_
 unfold Hy
 refine(iD hs).mono ?_
 rintro r V' ⟨rfl,rfl⟩
 refine⟨_,rfl,aa (fun hb=> ?_) (fun hb=> ?_)⟩
 ·have:cY h=true∨node<0∨12≤node:=by
   cases ho:cY h<;>simp [ho]at hb ⊢ <;>omega
  unfold eV;rw[if_pos this];exact⟨rfl,rfl⟩
 ·have hc:cY h=false∧0≤node∧node<12:=by
   cases ho:cY h<;>simp [ho]at hb ⊢ <;>omega
  obtain⟨ho,h0,h12⟩:=hc
  have hE:=tA ho h0 h12
  have hl:=cT ho
  have hn:=hs.n
  refine bh (k:= .int .i64) (fun(x:Int) V1=>V1=V' ∧0≤x∧x≤s.n∧∀j (hj:j<h.length),(j:Int)<x→0≤h[j]) (fun(x:Int) _=>s.n-x.toNat) ⟨rfl,by omega,by omega,fun j _ hj=>by omega⟩ ?_
  rintro(x:Int) V1 ⟨rfl,i0,i1,i2⟩
  refine aa (fun hlt=> ?_) (fun hge=> ?_)
  ·have hlt:x<s.n:=by simpa using hlt
   obtain⟨ad,hx,ha,hc,_⟩:=hs.int i0 hlt
   have hm:=jC ho (List.getElem_mem hx)
   refine⟨i0,hlt,ad,ha,_,hc,aa (fun hb=> ?_) (fun hb=>⟨au (by omega) (by omega),⟨rfl,by omega,by omega,fun j hj hjx=> ?_⟩,by omega⟩)⟩
   ·have hb:=of_decide_eq_true hb
    have hk:eR (fun n=>decide (-1=n)) h=x:=by
     rw[eu (fun n=>decide (-1=n)) h x.toNat hx (fun j hj=> ?_) (decide_eq_true (by omega))]
     ·omega
     ·have:=i2 j (by omega) (by omega)
      exact decide_eq_false (by omega)
    rw[hE,hk,if_neg (by omega)]
    refine ew (α:=Int) (V0:=V1) (l:= []) (m:=h) rfl (cs:= []) (Buf.nil _ _ _) rfl hs (View.Le.refl _) (by simp;omega) (by simp;omega) ?_
    intro z V2 cs b1 b2 b3
    obtain⟨ad,h1,h2,h3,h4⟩:=b1.F1 b2 b3 (i:=x.toNat) (v:=node) (by simp;omega) (au (by omega) (by omega))
    have hxn:=(b1.slR b2 (View.aj _ _)).n
    simp only [List.nil_append]at hxn h3
    exact⟨i0,by omega,ad,h1,h2,z,rfl,h3,h4⟩
   ·have hb:=of_decide_eq_false hb
    by_cases e:(j:Int)<x
    ·exact i2 j hj e
    ·have:j=x.toNat:=by omega
     subst this;omega
  ·have hge:¬x<s.n:=by simpa using hge
   have:eR (fun n=>decide (-1=n)) h= -1:=fk (fun n=>decide (-1=n)) h fun y hy=>by
    obtain⟨j,hj,rfl⟩:=List.getElem_of_mem hy
    have:=i2 j hj (by omega)
    exact decide_eq_false (by omega)
   rw[hE,this]
   exact⟨rfl,rfl⟩
theorem wK {s:Sl} {h:List Int} {i:Int} {V:View} (hs:SlR V s h):af Tryz.prog 51 ⟨[.slice s.a s.n s.c,.int .i64 i]⟩ V fun r V' =>wH V V' r (dO h i):=by
 refine Mg ?_
 unfold GV
 refine(wI hs).mono ?_
 rintro r V' ⟨rfl,rfl⟩
 cases hof:ofH h i with
 | error e=>exact⟨_,_,rfl,aa (fun _=>by unfold dO;rw[hof];exact⟨rfl,rfl⟩) (fun hb=>absurd (of_decide_eq_true (aD hb)) (zA hof))⟩
 | ok n=>
   obtain⟨ho,h0,h4,_⟩:=qY hof
   have hl:=cT ho
   refine⟨_,_,rfl,aa (fun hb=>absurd hb (by decide)) fun _=> ?_⟩
   refine ew (α:=Int) (V0:=V') (l:= []) (m:=h) rfl (cs:= []) (Buf.nil _ _ _) rfl hs (View.Le.refl _) (by simp;omega) (by simp;omega) ?_
   intro z V2 cs b1 b2 b3
   obtain⟨ad,h1,h2,h3,h4'⟩:=b1.F1 b2 b3 (i:=i.toNat) (v:= -1) (by simp;omega) (au (by omega) (by omega))
   have hxn:=(b1.slR b2 (View.aj _ _)).n
   simp only [List.nil_append]at hxn h3
   refine⟨h0,by omega,ad,h1,h2, ?_⟩
   unfold dO;rw[hof]
   exact⟨z,rfl,h3,h4'⟩
def cH (h:List Int) (i:Nat):List Bool:=(List.range 12).map fun(j:Nat)=>decide ((j:Int)∈h.take i)
theorem lQ (h:List Int):cH h 0=List.replicate 12 false:=by
 unfold cH
 apply List.ext_getElem
 ·simp
 ·intro i _ _;rw[List.getElem_map,List.getElem_replicate];simp only [List.take_zero];exact decide_eq_false (by simp)
theorem nH {h:List Int} {i q:Nat} (hi:i<h.length) (hq:h.getD i 0=(q:Int)):(cH h i).set q true=cH h (i+1):=by
 unfold cH
 apply List.ext_getElem
 ·simp
 ·intro j h1 h2
  rw[List.getElem_set]
  simp only [List.getElem_map,List.getElem_range,List.take_add_one,List.getElem?_eq_getElem hi,Option.toList_some]
  rw[bY hi]at hq
  split
  ·rename_i e
   subst e
   simp [hq]
  ·rename_i e
   rw[hq]
   simp only [List.mem_append,List.mem_singleton]
   have:¬((j:Int)=(q:Int)):=by omega
   simp [this]
theorem lR {h:List Int} {i:Nat} (hi:i<h.length) (hq:h.getD i 0<0):cH h i=cH h (i+1):=by
 unfold cH
 apply List.ext_getElem
 ·simp
 ·intro j h1 h2
  rw[bY hi]at hq
  simp only [List.getElem_map,List.getElem_range,List.take_add_one,List.getElem?_eq_getElem hi,Option.toList_some,List.mem_append,List.mem_singleton]
  have:¬((j:Int)=h[i]):=by omega
  simp [this]
theorem eJ (h:List Int) (i:Nat):(cH h i).length=12:=by unfold cH;simp
theorem nI {h:List Int} (ho:cY h=false):cH h 4=de h:=by
 unfold cH de
 rw[ho,if_neg (by decide),List.take_of_length_le (by rw[cT ho];decide)]
theorem oY {s:Sl} {h:List Int} {V:View} (hs:SlR V s h):af Tryz.prog 95 ⟨[.slice s.a s.n s.c]⟩ V fun r V' =>∃x:Sl,r= .slice x.a x.n x.c∧SlR V' x (de h)∧V.Le V' :=by
 refine MV ?_
 unfold HH
 have hn:=hs.n
 refine(mD hs).mono ?_
 rintro r V' ⟨rfl,rfl⟩
 refine⟨_,rfl,aa (fun ho=> ?_) (fun ho=>⟨by decide,by decide,by decide,by decide,fun r hr=> ?_⟩)⟩
 ·unfold de;rw[if_pos ho]
  exact⟨⟨none,0,0⟩,rfl,SlR.nil _ _ _,View.Le.refl _⟩
 have hl:=cT ho
 have hfr:V'.see r=none:=View.ax hr
 refine bh (k:= .int .i64) (fun(x:Int) V1=>∃i:Nat,x=i∧i≤4∧MI V' V1 r (cH h i)) (fun(x:Int) _=>4-x.toNat) ⟨0,rfl,by omega,by rw[lQ];exact View.ah _ _ _,aT hfr (View.Le.refl _)⟩ ?_
 rintro(x:Int) V1 ⟨i,rfl,hi,hM⟩
 refine aa (fun hlt=> ?_) (fun hge=> ?_)
 ·have hlt:i<4:=by have:=of_decide_eq_true hlt;omega
  obtain⟨ad,ha,hc,_⟩:=(hs.mono hM.vle).fD (i:=i) (by omega)
  have hg:=nG ho hlt
  refine⟨by omega,by omega,ad,ha,_,hc,ai (fun _ V2=>MI V' V2 r (cH h (i+1))) (aa (fun hb=> ?_) (fun hb=> ?_)) ?_⟩
  ·have hb:=of_decide_eq_false (aM hb)
   obtain⟨q,hq⟩:∃q:Nat,h.getD i 0=q:=⟨(h.getD i 0).toNat,by omega⟩
   obtain⟨h1,h2⟩:=hM.set (q:=q) (by rw[eJ];omega)
   rw[hq]
   rw[nH (by omega) hq]at h2
   exact⟨by omega,by omega,_,rfl,h1,h2⟩
  ·have hb:=of_decide_eq_true (aD hb)
   rw[←lR (by omega) (by omega)]
   exact hM
  ·rintro⟨⟩ V2 hM2
   exact⟨au (by omega) (by omega),⟨i+1,by omega,by omega,hM2⟩,by omega⟩
 ·have hge:i=4:=by have:=of_decide_eq_false hge;omega
  subst hge
  refine⟨⟨some ⟨r,0,none⟩,12,12⟩,rfl, ?_,hM.vle⟩
  have:=bK (W:=V1) hM.marks jl (View.Le.refl _) (by rw[eJ];omega)
  rw[eJ,nI ho]at this
  exact this
theorem q6 {s:Sl} {h:List Int} {V:View} (hs:SlR V s h):af Tryz.prog 52 ⟨[.slice s.a s.n s.c]⟩ V fun r V' =>∃x:Sl,r= .slice x.a x.n x.c∧SlR V' x (de h)∧V.Le V' :=by
 refine Mh ?_
 unfold GW
 have hn:=hs.n
 refine(iD hs).mono ?_
 rintro r V' ⟨rfl,rfl⟩
 refine⟨_,rfl,aa (fun ho=> ?_) (fun ho=>⟨by decide,by decide,by decide,by decide,fun r hr=> ?_⟩)⟩
 ·unfold de;rw[if_pos (by simpa using ho)]
  exact⟨⟨none,0,0⟩,rfl,SlR.nil _ _ _,View.Le.refl _⟩
 have ho:cY h=false:=by simpa using ho
 have hl:=cT ho
 have hfr:V'.see r=none:=View.ax hr
 refine bh (k:= .int .i64) (fun(x:Int) V1=>∃i:Nat,x=i∧i≤4∧MI V' V1 r (cH h i)) (fun(x:Int) _=>4-x.toNat) ⟨0,rfl,by omega,by rw[lQ];exact View.ah _ _ _,aT hfr (View.Le.refl _)⟩ ?_
 rintro(x:Int) V1 ⟨i,rfl,hi,hM⟩
 refine aa (fun hlt=> ?_) (fun hge=> ?_)
 ·have hlt:i<4:=by have:=of_decide_eq_true hlt;omega
  obtain⟨ad,ha,hc,_⟩:=(hs.mono hM.vle).fD (i:=i) (by omega)
  have hg:=nG ho hlt
  refine⟨by omega,by omega,ad,ha,_,hc,ai (fun _ V2=>MI V' V2 r (cH h (i+1))) (aa (fun hb=> ?_) (fun hb=> ?_)) ?_⟩
  ·have hb:=of_decide_eq_true hb
   obtain⟨q,hq⟩:∃q:Nat,h.getD i 0=q:=⟨(h.getD i 0).toNat,by omega⟩
   obtain⟨h1,h2⟩:=hM.set (q:=q) (by rw[eJ];omega)
   rw[hq]
   rw[nH (by omega) hq]at h2
   exact⟨by omega,by omega,_,rfl,h1,h2⟩
  ·have hb:=of_decide_eq_false hb
   rw[←lR (by omega) (by omega)]
   exact hM
  ·rintro⟨⟩ V2 hM2
   exact⟨au (by omega) (by omega),⟨i+1,by omega,by omega,hM2⟩,by omega⟩
 ·have hge:i=4:=by have:=of_decide_eq_false hge;omega
  subst hge
  refine⟨⟨some ⟨r,0,none⟩,12,12⟩,rfl, ?_,hM.vle⟩
  have:=bK (W:=V1) hM.marks jl (View.Le.refl _) (by rw[eJ];omega)
  rw[eJ,nI ho]at this
  exact this
structure Cal where
 kind:Int
 path:ByteArray
 to_:ByteArray
 hand:Int
 at_:Int
 len:Int
 data:List UInt8
structure kQ (V:View) (y:Sl) (c:Cal):Prop where
 kind:inI .i64 c.kind
 path:c.path.size≤9223372036854775807
 to_:c.to_.size≤9223372036854775807
 hand:inI .i64 c.hand
 at_:inI .i64 c.at_
 len:inI .i64 c.len
 data:SlR V y c.data
theorem kQ.mono {V V' :View} {y:Sl} {c:Cal} (hV:V.Le V') (h:kQ V y c):kQ V' y c:=⟨h.kind,h.path,h.to_,h.hand,h.at_,h.len,h.data.mono hV⟩
def M7 (c:Cal) (y:Sl):List Value:= [.int .i64 c.kind,.string c.path,.string c.to_,.int .i64 c.hand,.int .i64 c.at_,.int .i64 c.len,.slice y.a y.n y.c]
def q8 (c:Cal) (y:Sl):Value:= .agg ⟨[.int .i64 c.kind,.string c.path,.string c.to_,.int .i64 c.hand,.int .i64 c.at_,.int .i64 c.len,.slice y.a y.n y.c]⟩
instance:Inhabited Cal:=⟨⟨0,ba [],ba [],0,0,0,[]⟩⟩
instance:Rep Cal where
 sz:=7
 pos:=by decide
 rep V vs c:=∃y:Sl,vs=M7 c y∧kQ V y c
 len h:=by obtain⟨y,h,_⟩:=h;rw[h];rfl
 one h:=by obtain⟨y,h,_⟩:=h;rw[h];rfl
 mono hV h:=let ⟨y,h,k⟩:=h;⟨y,h,k.mono hV⟩
theorem SlR.M8 {V:View} {s:Sl} {l:List Cal} (h:SlR V s l) {i:Nat} (hi:i<l.length):
  ∃ad y,s.a=some ad∧aq V (ad.add (i*7)) (M7 (l.getD i default) y)∧kQ V y (l.getD i default):=by
 obtain⟨ad,vs,ha,hc,y,e,hv⟩:=h.get i hi
 subst e
 rw[aB hi]
 exact⟨ad,y,ha,hc,hv⟩
structure Ans where
 err:Int
 hand:Int
 n:Int
 kind:Int
 links:Int
 data:List UInt8
 names:List ByteArray
 deriving DecidableEq
def Ans.e (e:Int):Ans:=⟨e,0,0,0,0,[],[]⟩
def M9 (a:Ans) (x y:Sl):List Value:= [.int .i64 a.err,.int .i64 a.hand,.int .i64 a.n,.int .i64 a.kind,.int .i64 a.links,.slice x.a x.n x.c,.slice y.a y.n y.c]
def F2 (V:View) (r:Value) (a:Ans):Prop:=∃x y:Sl,r= .agg ⟨[.int .i64 a.err,.int .i64 a.hand,.int .i64 a.n,.int .i64 a.kind,.int .i64 a.links,.slice x.a x.n x.c,.slice y.a y.n y.c]⟩∧SlR V x a.data∧SlR V y a.names
structure bQ where
 data:Int
 t:Tre
 h:List Int
 P:Int→Option (List UInt8)
 seq:Int
def fO:List UInt8:=List.replicate 16 0
def pgP (P:Int→Option (List UInt8)) (q:Int):List UInt8:=if q=0 then fO else(P q).getD fO
structure Dee where
 t:Tre
 h:List Int
 todo:List Tod
 a:Ans
noncomputable def cr (m:bQ) (c:Cal):Except Int Tre:=
 if c.kind=1 then cZ m.t c.path 1 else if c.kind=2 then cZ m.t c.path 2 else if c.kind=3 then dM m.t c.path (de m.h)else
  if c.kind=4 then ff m.t c.path else if c.kind=5 then cz m.t c.path c.to_ (de m.h)else iC m.t c.path c.to_
noncomputable def gr (m:bQ) (c:Cal):Except Int Dee:=match b8 m.t c.path with
 | .error e=> .error e
 | .ok i=>
   if c.kind=7 then .ok ⟨m.t,m.h,[],⟨0,0,(m.t.getD i default).size,(m.t.getD i default).kind,(m.t.getD i default).links,[],[]⟩⟩else
   if c.kind=8∧(m.t.getD i default).kind≠2 then .error 11 else
   if c.kind=8 then .ok ⟨m.t,m.h,[],⟨0,0,0,0,0,[],(m.t.getD i default).az.map Ent.name⟩⟩else
   if(m.t.getD i default).kind=2 then .error 10 else match eV m.h i with
    | .error e=> .error e
    | .ok (h,k)=> .ok ⟨m.t,h,[],⟨0,k,0,0,0,[],[]⟩⟩
noncomputable def gU (m:bQ) (c:Cal):Except Int Dee:=match dO m.h c.hand with
 | .error e=> .error e
 | .ok (h,i)=>if(m.t.getD i.toNat default).links=0∧ct (de h) i.toNat=false then match c9 m.t i with
   | .error e=> .error e
   | .ok t=> .ok ⟨t,h,[],Ans.e 0⟩
   else .ok ⟨m.t,h,[],Ans.e 0⟩
def cU (pg:Int→List UInt8) (l:List Pce):List UInt8:=l.flatMap fun p=>((pg p.aS).take (p.from_+p.len).toNat).drop p.from_.toNat
noncomputable def j5 (m:bQ) (c:Cal):Except Int Dee:=match ofH m.h c.hand with
 | .error e=> .error e
 | .ok i=>
   if c.kind=12 then match cE m.t m.data i c.at_ c.data with
    | .error e=> .error e
    | .ok (u,l)=> .ok ⟨u,m.h,l,⟨0,0,c.data.length,0,0,[],[]⟩⟩
   else if c.kind=13 then match c5 m.t i c.at_ with
    | .error e=> .error e
    | .ok (u,l)=> .ok ⟨u,m.h,l,Ans.e 0⟩
   else match dQ m.t i c.at_ c.len with
    | .error e=> .error e
    | .ok l=> .ok ⟨m.t,m.h,[],⟨0,0,(cU (fun p=>pgP m.P ((m.t.getD i.toNat default).an.getD p.toNat 0)) l).length,0,0,cU (fun p=>pgP m.P ((m.t.getD i.toNat default).an.getD p.toNat 0)) l,[]⟩⟩
noncomputable def bH (m:bQ) (c:Cal):Except Int Dee:=
 if 1≤c.kind∧c.kind≤6 then(match cr m c with
  | .error e=> .error e
  | .ok t=> .ok ⟨t,m.h,[],Ans.e 0⟩)
 else if 7≤c.kind∧c.kind≤9 then gr m c
 else if c.kind=10 then gU m c
 else if 11≤c.kind∧c.kind≤13 then j5 m c
 else if c.kind=14 then .ok ⟨m.t,m.h,[],Ans.e 0⟩
 else if c.kind=15 then .ok ⟨m.t,m.h,[],⟨0,0,kE m.t m.data,0,js m.t,[],[]⟩⟩
 else .error 1
noncomputable def aK (m:bQ) (c:Cal):Dee:=match bH m c with
 | .error e=>⟨m.t,m.h,[],Ans.e e⟩
 | .ok d=>d
def cM:(Int→Option (List UInt8))→Int→List Tod→(Int→Option (List UInt8))
 | P,_,[]=>P
 | P,q,x::l=>cM (fun k=>if k=q+1 then some (dj (pgP P x.old) x)else P k) (q+1) l
theorem mE:∀(P:Int→Option (List UInt8)) (q:Int) (l:List Tod) (x:Tod),cM P q (l++ [x])=fun k=>if k=q+l.length+1 then some (dj (pgP (cM P q l) x.old) x)else cM P q l k
 | P,q,[],x=>by simp [cM]
 | P,q,y::l,x=>by
   rw[List.cons_append,cM,mE]
   funext k
   have:q+1+(l.length:Int)+1=q+((y::l).length:Int)+1:=by rw[List.length_cons];push_cast;omega
   rw[this];rfl
def cN (l:List Tod):Nat:=match l with
 | []=>0
 | x::_=>x.node.toNat
noncomputable def doP (m:bQ) (c:Cal):bQ:=
 ⟨m.data,ck (cN (aK m c).todo) (aK m c).t (aK m c).todo (upS m.seq (aK m c).todo.length),(aK m c).h,cM m.P m.seq (aK m c).todo,m.seq+(aK m c).todo.length⟩
noncomputable def cv (m:bQ) (c:Cal):Bool:=decide (0<(aK m c).todo.length) || !decide ((aK m c).t=m.t)
structure OkP (m:bQ):Prop where
 may:aY m.t=true
 bW:cY m.h=false
 d1:1≤m.data
 d2:m.data≤60
 s0:0≤m.seq
 top:rY m.t m.seq
 p16:∀q b,m.P q=some b→b.length=16
theorem nJ {P:Int→Option (List UInt8)} (h:∀q b,P q=some b→b.length=16) (q:Int):(pgP P q).length=16:=by
 unfold pgP
 split
 ·rfl
 ·cases hp:P q with
  | none=>rfl
  | some b=>exact h q b hp
def mF (W:View) (es:List MapEntry) (P:Int→Option (List UInt8)):Prop:=rQ es∧∀q,match P q with
 | none=>vlk q es=none
 | some b=>∃y:Sl,vlk q es=some (.slice y.a y.n y.c)∧SlR W y b
theorem mF.mono {W W' :View} {es:List MapEntry} {P:Int→Option (List UInt8)} (hW:W.Le W') (h:mF W es P):mF W' es P:=by
 refine⟨h.1,fun q=> ?_⟩
 have:=h.2 q
 cases hp:P q with
 | none=>rw[hp]at this;exact this
 | some b=>rw[hp]at this;obtain⟨y,h1,h2⟩:=this;exact⟨y,h1,h2.mono hW⟩
structure iE (V0 V:View) (p mb:Nat) (m:bQ) (s hs:Sl) (es:Array MapEntry) (cl:Nat):Prop where
 box:V.see p=some (.cells ⟨[.int .i64 m.data,.slice s.a s.n s.c,.slice hs.a hs.n hs.c,.map (some mb),.int .i64 m.seq]⟩ 71 (0,0))
 map:V.see mb=some (.map es cl)
 tre:SlR V0 s m.t
 bW:SlR V0 hs m.h
 pages:mF V0 es.toList m.P
structure ov (V0 V:View) (p mb:Nat) (m:bQ):Prop where
 le:V0.Le V
 np:V0.see p=none
 nm:V0.see mb=none
 ne:p≠mb
 ex:∃(s hs:Sl) (es:Array MapEntry) (cl:Nat),iE V0 V p mb m s hs es cl
theorem iE.stp {B:Nat→Prop} {V0 V V0' V' :View} {p mb:Nat} {m:bQ} {s hs:Sl} {es:Array MapEntry} {cl:Nat} (h:iE V0 V p mb m s hs es cl) (k:Mv B V0 V V0' V') (h1:¬B p) (h2:¬B mb):iE V0' V' p mb m s hs es cl:=
 ⟨k.rest _ _ h1 h.box,k.rest _ _ h2 h.map,h.tre.mono k.base,h.bW.mono k.base,h.pages.mono k.base⟩
theorem ov.stp {B:Nat→Prop} {V0 V V0' V' :View} {p mb:Nat} {m:bQ} (h:ov V0 V p mb m) (k:Mv B V0 V V0' V') (h1:¬B p) (h2:¬B mb):ov V0' V' p mb m:=by
 obtain⟨s,hs,es,cl,hc⟩:=h.ex
 exact⟨k.sub,k.apart _ h.np (by rw[hc.box];simp),k.apart _ h.nm (by rw[hc.map];simp),h.ne,s,hs,es,cl,hc.stp k h1 h2⟩
structure uQ (W:View) (cs:List Value) (d:Dee):Prop where
 ex:∃s hs y x n:Sl,cs= [.slice s.a s.n s.c,.slice hs.a hs.n hs.c,.slice y.a y.n y.c,.int .i64 d.a.err,.int .i64 d.a.hand,.int .i64 d.a.n,.int .i64 d.a.kind,.int .i64 d.a.links,.slice x.a x.n x.c,.slice n.a n.n n.c]∧
  SlR W s d.t∧SlR W hs d.h∧SlR W y d.todo∧SlR W x d.a.data∧SlR W n d.a.names
theorem uQ.mono {W W' :View} {cs:List Value} {d:Dee} (hW:W.Le W') (h:uQ W cs d):uQ W' cs d:=by
 obtain⟨s,hs,y,x,n,e,h1,h2,h3,h4,h5⟩:=h.ex
 exact⟨s,hs,y,x,n,e,h1.mono hW,h2.mono hW,h3.mono hW,h4.mono hW,h5.mono hW⟩
def mG (b:Nat) (V0 V:View) (r:Value):Except Int Dee→Prop
 | .error e=>r= .int .i64 e∧e≠0
 | .ok d=>r= .int .i64 0∧∃cs,V.see b=some (.cells ⟨cs⟩ 74 (0,0))∧uQ V0 cs d
structure Stp where
 do_:Int
 n:Int
 path:ByteArray
 to_:ByteArray
 held:List Bool
instance:Inhabited Stp:=⟨⟨0,0,⟨#[]⟩,⟨#[]⟩,[]⟩⟩
instance:Rep Stp where
 sz:=5
 pos:=by decide
 rep V vs c:=∃s:Sl,vs= [.int .i64 c.do_,.int .i64 c.n,.string c.path,.string c.to_,.slice s.a s.n s.c]∧inI .i64 c.n∧c.path.size≤9223372036854775807∧c.to_.size≤9223372036854775807∧SlR V s c.held
 len h:=by obtain⟨s,h,_⟩:=h;rw[h];rfl
 one h:=by obtain⟨s,h,_⟩:=h;rw[h];rfl
 mono hV h:=let ⟨s,h,h0,h1,h2,h3⟩:=h;⟨s,h,h0,h1,h2,h3.mono hV⟩
theorem SlR.stp {V:View} {s:Sl} {l:List Stp} (h:SlR V s l) {i:Nat} (hi:i<l.length):∃ad y,s.a=some ad∧aq V (ad.add (((i:Int)).toNat*5)) [.int .i64 l[i].do_,.int .i64 l[i].n,.string l[i].path,.string l[i].to_,.slice y.a y.n y.c]∧inI .i64 l[i].n∧l[i].path.size≤9223372036854775807∧l[i].to_.size≤9223372036854775807∧SlR V y l[i].held:=by
 have hn:=h.n
 obtain⟨ad,vs,hx,ha,hc,y,rfl,h1,h2,h3,h4⟩:=h.ld (x:=(i:Int)) (by omega) (by omega)
 exact⟨ad,y,ha,hc,h1,h2,h3,h4⟩
theorem zB {t:Tre} {m:List ByteArray} :∀ {l:List ByteArray} {a d:Nat},goF t a l= .ok d→goF t a (l++m)=goF t d m
 | [],a,d,h=>by cases h;rfl
 | s::l,a,d,h=>by
   rw[ez]at h
   rw[List.cons_append,ez]
   split at h
   ·rename_i hk
    rw[if_pos hk]
    split at h
    ·cases h
    ·rename_i h0
     rw[if_neg h0];exact zB h
   ·cases h
theorem Ll {t:Tre} {d:Nat} {s:ByteArray} (hk:ak t d=2):goF t d [s]=if atI (ag t d) s<0 then .error 8 else .ok (atI (ag t d) s).toNat:=by
 rw[ez,if_pos hk];rfl
theorem Par.findAt {t:Tre} {p s:ByteArray} {ld:List ByteArray} {d:Nat} (h:Par t p ld d s):b8 t p=if atI (ag t d) s<0 then .error 8 else .ok (atI (ag t d) s).toNat:=by
 rw[h.find,zB h.go,Ll h.kind]
theorem Par.found {t:Tre} {p s:ByteArray} {ld:List ByteArray} {d i:Nat} (h:Par t p ld d s) (ha:atI (ag t d) s=i):b8 t p= .ok i:=by
 rw[h.findAt,ha,if_neg (by omega),Int.toNat_natCast]
theorem kR {t:Tre} {p:ByteArray} {i:Nat} (h:b8 t p= .ok i):aY t=true:=by
 unfold b8 at h;split at h;assumption;cases h
theorem DE {t:Tre} {p:ByteArray} {i:Nat} (h:b8 t p= .ok i) (hi:i≠0):∃ld d s,Par t p ld d s∧atI (ag t d) s=i:=by
 have hM:=kR h
 unfold b8 at h
 rw[if_pos hM]at h
 cases hs:bF p with
 | none=>rw[hs]at h;cases h
 | some l=>
   rw[hs]at h
   have h:goF t 0 l= .ok i:=h
   rcases gG l with rfl | ⟨ld,s,rfl⟩
   ·cases h;exact absurd rfl hi
   ·obtain⟨d,h1,h2⟩:=(qO t s ld 0 i).1 h
    obtain⟨hk,e,he,hn,hq⟩:=zo h2
    refine⟨ld,d,s,⟨hM,hs,h1,hk⟩, ?_⟩
    have:=Dm ((bP hM).pair d) he
    rw[hn]at this
    have h3:=(bP hM).ent he
    omega
theorem wL {l:List Ent} {s:ByteArray} (h:eT l s=false):atI l s= -1:=by
 unfold atI
 rw[List.find?_eq_none.2]
 intro e he
 simpa using fu.1 h e he
theorem uR {l:List Ent} (h:bZ l=true) {e:Ent} (he:e∈l):atI l e.name=e.node:=Dm (oe h) he
theorem F3 {l:List Ent} {x:Ent} (hl:bZ l=true) (h:bZ (bu l x)=true) (s:ByteArray):atI (bu l x) s=if x.name=s then x.node else atI l s:=by
 by_cases hs:x.name=s
 ·rw[if_pos hs, ←hs];exact uR h (gS.2 (.inl rfl))
 ·rw[if_neg hs]
  cases hh:eT l s with
  | true=>
    obtain⟨e,he,hn⟩:=qQ.1 hh
    rw[←hn,uR hl he];exact uR h (gS.2 (.inr he))
  | false=>
    rw[wL hh]
    refine wL (fu.2 fun e he=> ?_)
    rcases gS.1 he with rfl | he
    ·exact hs
    ·exact fu.1 hh e he
theorem zC {t u:Tre} {A:Nat→Prop} (hk:∀p e,e∈ag t p→¬A e.node.toNat→ak u p=2∧atI (ag u p) e.name=atI (ag t p) e.name):
  ∀ {l:List ByteArray} {a q:Nat},goF t a l= .ok q→(∀i,A i→¬Reach t i q)→goF u a l= .ok q
 | [],a,q,h,_=>by cases h;rfl
 | s::l,a,q,h,hA=>by
   rw[ez]at h
   split at h
   ·split at h
    ·cases h
    ·rename_i h0
     obtain⟨e,he,hn,hq⟩:=nx h0
     have hr:=s7 h
     rw[←hq]at hr
     obtain⟨h1,h2⟩:=hk a e he fun hA2=>hA _ hA2 hr
     rw[hn]at h2
     rw[ez,if_pos h1,h2,if_neg h0]
     exact zC hk h hA
   ·cases h
structure j7 (t u:Tre) (p:ByteArray) (k:Int) (ld:List ByteArray) (d:Nat) (s:ByteArray) (i:Nat):Prop where
 P:Par t p ld d s
 no:atI (ag t d) s= -1
 i0:i≠0
 i12:i<12
 id:i≠d
 free:ak t i=0
 room:(ag t d).length<10
 eq:u=(aJ t d (bu (ag t d) ⟨s,i⟩)).set i (aQ k)
 at_:∀j,u.getD j default=if j=i then aQ k else if j=d then { t.getD d default with az:=bu (ag t d) ⟨s,i⟩ } else t.getD j default
 may:aY u=true
 No:bZ (bu (ag t d) ⟨s,i⟩)=true
section
variable {t u:Tre} {p s:ByteArray} {k:Int} {ld:List ByteArray} {d i:Nat}
theorem j7.len (h:j7 t u p k ld d s i):u.length=12:=(bq h.may).1
theorem j7.Na (h:j7 t u p k ld d s i):ag u d=bu (ag t d) ⟨s,i⟩:=by
 unfold ag;rw[h.at_,if_neg (fun e=>h.id e.symm),if_pos rfl]
theorem j7.Nb (h:j7 t u p k ld d s i) {j:Nat} (h1:j≠i) (h2:j≠d):ag u j=ag t j:=by
 unfold ag;rw[h.at_,if_neg h1,if_neg h2]
theorem j7.HQ (h:j7 t u p k ld d s i) {j:Nat} (h1:j≠i):ak u j=ak t j:=by
 unfold ak;rw[h.at_,if_neg h1];split
 ·rename_i e;subst e;rfl
 ·rfl
theorem j7.atD (h:j7 t u p k ld d s i) (n:ByteArray):atI (ag u d) n=if s=n then(i:Int)else atI (ag t d) n:=by
 rw[h.Na,F3 h.P.bZ h.No]
theorem j7.keep (h:j7 t u p k ld d s i) {l:List ByteArray} {a q:Nat} (hg:goF t a l= .ok q):goF u a l= .ok q:=by
 refine zC (A:=fun _=>False) (fun p' e he _=> ?_) hg (fun _ h=>h.elim)
 have hF:=bP h.P.may
 have hp:=hF.ent he
 have hpi:p' ≠i:=fun e=>by rw[e,h.free]at hp;exact absurd hp.2.1 (by decide)
 refine⟨by rw[h.HQ hpi];exact hp.2.1, ?_⟩
 by_cases hpd:p' =d
 ·subst hpd
  rw[h.atD,if_neg]
  intro hs
  have:=uR h.P.bZ he
  rw[←hs,h.no]at this
  omega
 ·rw[h.Nb hpi hpd]
theorem j7.par (h:j7 t u p k ld d s i):Par u p ld d s:=⟨h.may,h.P.split,h.keep h.P.go,by rw[h.HQ (fun e=>h.id e.symm)];exact h.P.kind⟩
theorem j7.find (h:j7 t u p k ld d s i):b8 u p= .ok i:=h.par.found (by rw[h.atD,if_pos rfl])
theorem j7.zero (h:j7 t u p k ld d s i):t.getD i default=Nod.zero:=zy (bP h.P.may) h.i12 h.free
end
theorem DF {k:Int} {es:List MapEntry} (h:rQ es):∃f,ei (.int .i64 k) es 0=some f∧f.isSome=(vlk k es).isSome∧∀z,found z f=(vlk k es).getD z:=by
 obtain⟨f,h1,h2⟩:=n8 (k:=k) h 0
 refine⟨f,h1, ?_⟩
 rcases h2 with ⟨rfl,h3⟩ | ⟨j,v,rfl,h3,_⟩
 ·rw[h3];exact⟨rfl,fun _=>rfl⟩
 ·rw[h3];exact⟨rfl,fun _=>rfl⟩
section
variable {V0 V:View} {p mb b:Nat} {m:bQ} {c:Cal} {y:Sl} {s hs:Sl} {es:Array MapEntry} {cl:Nat}
theorem mH (hm:iE V0 V p mb m s hs es cl) (hle:V0.Le V) (q:Int):af Tryz.prog 36 ⟨[.pointer (some ⟨p,0,none⟩),.int .i64 q]⟩ V fun r V' =>∃z:Sl,r= .slice z.a z.n z.c∧SlR V' z (pgP m.P q)∧V.Le V' :=by
 refine L3 ?_
 unfold GG
 obtain⟨f,h1,h2,h3⟩:=DF (k:=q) hm.pages.1
 have hq:=hm.pages.2 q
 have hz:∀r,V.size≤r→SlR (V.put r (.cells ⟨u8s fO⟩ 5 (0,0))) ⟨some ⟨r,0,none⟩,16,16⟩ fO:=fun r _=>bK (W:=V) (l:=fO) (View.ah _ _ _) (cV _) (View.bB (View.ax (by assumption))) (by decide)
 have hle' :∀r o,V.size≤r→V.Le (V.put r o):=fun r o h=>View.bB (View.ax h)
 refine⟨_,rfl,some mb,bx hm.box 3 rfl,trivial,es,cl,f,hm.map,h1, ?_⟩
 cases hp:m.P q with
 | none=>
   rw[hp]at hq
   have hq:vlk q es.toList=none:=hq
   rw[h3,h2,hq]
   refine⟨⟨none,0,0⟩,rfl,aa (fun h=>by cases h) (fun _=>⟨by decide,by decide,by decide,by decide,fun r hr=> ?_⟩)⟩
   have e:pgP m.P q=fO:=by unfold pgP;rw[hp];split<;>rfl
   rw[e]
   exact⟨⟨some ⟨r,0,none⟩,16,16⟩,rfl,hz r hr,hle' r _ hr⟩
 | some w=>
   rw[hp]at hq
   obtain⟨z,hq1,hq2⟩:=hq
   rw[h3,h2,hq1]
   refine⟨z,rfl,aa (fun hb=> ?_) (fun hb=>⟨by decide,by decide,by decide,by decide,fun r hr=> ?_⟩)⟩
   ·have hb:¬q=0:=by simpa using hb
    have e:pgP m.P q=w:=by unfold pgP;rw[if_neg hb,hp];rfl
    rw[e]
    exact⟨z,rfl,hq2.mono hle,View.Le.refl _⟩
   ·have hb:q=0:=by simpa using hb
    have e:pgP m.P q=fO:=by unfold pgP;rw[if_pos hb]
    rw[e]
    exact⟨⟨some ⟨r,0,none⟩,16,16⟩,rfl,hz r hr,hle' r _ hr⟩
def wM (V0 V V' :View) (r:Value) (o:Except Int Tre):Prop:=∃(V0' :View) (x:Sl) (e:Int),r= .tuple ⟨[aZ x,.int .i64 e]⟩∧(match o with
 | .ok u=>e=0∧SlR V0' x u
 | .error c=>e=c∧c≠0)∧Mv (fun _=>False) V0 V V0' V'
theorem jD {f:FuncId} {args:Array Value} {o:Except Int Tre} (hle:V0.Le V) (h:af Tryz.prog f args V0 fun r V' =>gH V0 V' r o):af Tryz.prog f args V fun r V' =>wM V0 V V' r o:=by
 refine(af.stp (B:=fun _=>False) (K:=fun r V' =>gH V0 V' r o) hle (h.mono fun r V' h=>⟨h,h.2⟩)).mono ?_
 rintro r V' ⟨V0',⟨⟨x,e,h1,h2⟩,_⟩,h3,_⟩
 refine⟨V0',x,e,h1, ?_,h3⟩
 cases o with
 | ok u=>exact h2
 | error c=>exact⟨h2.1,h2.2.1⟩
theorem wN (hm:iE V0 V p mb m s hs es cl) (hle:V0.Le V) (hc:kQ V0 y c) (hg:Glo V0):af Tryz.prog 63 ⟨[.pointer (some ⟨p,0,none⟩),q8 c y]⟩ V fun r V' =>wM V0 V V' r (cr m c):=by
 refine Mp ?_
 unfold G5
 refine fun _ _=>⟨_,rfl,hs,bx hm.box 2 rfl, ?_⟩
 refine(af.stp (B:=fun _=>False) (K:=fun r V' =>∃x:Sl,r= .slice x.a x.n x.c∧SlR V' x (de m.h)) hle ((oY hm.bW).mono fun r V' ⟨x,h1,h2,h3⟩=>⟨⟨x,h1,h2⟩,h3⟩)).mono ?_
 rintro r V1 ⟨V01,⟨x,rfl,hx⟩,hS1,hV1⟩
 have hm1:=hm.stp hS1 id id
 have hc1:=hc.mono hS1.base
 have hg1:=hg.mono hS1.base
 have fin:∀(r:Value) (V2:View) (o:Except Int Tre),wM V01 V1 V2 r o→∃(x:Sl) (e:Int),r= .tuple ⟨[.agg ⟨[.slice x.a x.n x.c]⟩,.int .i64 e]⟩∧wM V0 V V2 (.tuple ⟨[.agg ⟨[.slice x.a x.n x.c]⟩,.int .i64 e]⟩) o:=by
  rintro r V2 o ⟨V02,x,e,rfl,h1,h2⟩
  exact⟨x,e,rfl,V02,x,e,rfl,h1,hS1.trans h2⟩
 have hcell:=bx1 hm1.box 1 rfl
 unfold cr
 refine⟨x,rfl,aa (fun hk=> ?_) (fun hk=>aa (fun hk2=> ?_) (fun hk2=>aa (fun hk3=> ?_) (fun hk3=>aa (fun hk4=> ?_) (fun hk4=>aa (fun hk5=> ?_) (fun hk5=> ?_)))))⟩
 ·rw[if_pos (of_decide_eq_true hk)]
  exact⟨trivial,V1,View.Le.refl _,_,rfl,s,hcell,(jD hS1.sub (An hm1.tre hc.path hg1)).mono fun r V2 h=>fin r V2 _ h⟩
 ·rw[if_neg (of_decide_eq_false hk),if_pos (of_decide_eq_true hk2)]
  exact⟨trivial,V1,View.Le.refl _,_,rfl,s,hcell,(jD hS1.sub (Dt hm1.tre hc.path hg1)).mono fun r V2 h=>fin r V2 _ h⟩
 ·rw[if_neg (of_decide_eq_false hk),if_neg (of_decide_eq_false hk2),if_pos (of_decide_eq_true hk3)]
  exact⟨trivial,V1,View.Le.refl _,_,rfl,s,hcell,(jD hS1.sub (Ao hm1.tre hx hc.path hg1)).mono fun r V2 h=>fin r V2 _ h⟩
 ·rw[if_neg (of_decide_eq_false hk),if_neg (of_decide_eq_false hk2),if_neg (of_decide_eq_false hk3),if_pos (of_decide_eq_true hk4)]
  exact⟨trivial,V1,View.Le.refl _,_,rfl,s,hcell,(jD hS1.sub (Dv hm1.tre hc.path hg1)).mono fun r V2 h=>fin r V2 _ h⟩
 ·rw[if_neg (of_decide_eq_false hk),if_neg (of_decide_eq_false hk2),if_neg (of_decide_eq_false hk3),if_neg (of_decide_eq_false hk4),if_pos (of_decide_eq_true hk5)]
  exact⟨trivial,V1,View.Le.refl _,_,rfl,s,hcell,(jD hS1.sub (Ap hm1.tre hx hc.path hc.to_ hg1)).mono fun r V2 h=>fin r V2 _ h⟩
 ·rw[if_neg (of_decide_eq_false hk),if_neg (of_decide_eq_false hk2),if_neg (of_decide_eq_false hk3),if_neg (of_decide_eq_false hk4),if_neg (of_decide_eq_false hk5)]
  exact⟨trivial,V1,View.Le.refl _,_,rfl,s,hcell,(jD hS1.sub (FW hm1.tre hc.path hc.to_ hg1)).mono fun r V2 h=>fin r V2 _ h⟩
structure lD (V0 V:View) (b p mb:Nat) (d:Dee):Prop where
 no:V0.see b=none
 bp:b≠p
 bm:b≠mb
 ex:∃cs,V.see b=some (.cells ⟨cs⟩ 74 (0,0))∧uQ V0 cs d
theorem lD.stp {B:Nat→Prop} {V0' V' :View} {d:Dee} (h:lD V0 V b p mb d) (k:Mv B V0 V V0' V') (h1:¬B b):lD V0' V' b p mb d:=by
 obtain⟨cs,e1,e2⟩:=h.ex
 exact⟨k.apart _ h.no (by rw[e1];simp),h.bp,h.bm,cs,k.rest _ _ h1 e1,e2.mono k.base⟩
theorem lD.set {d d' :Dee} (h:lD V0 V b p mb d) (hle:V0.Le V) (j:Nat) (vs:List Value) (hj:j+vs.length≤10) (hd:∀cs,uQ V0 cs d→uQ V0 (bD cs j vs) d'):
  ay V ((⟨b,0,none⟩:Addr).add j) vs.length∧lD V0 (V.sets ((⟨b,0,none⟩:Addr).add j) vs) b p mb d' ∧Mv (fun i=>i=b) V0 V V0 (V.sets ((⟨b,0,none⟩:Addr).add j) vs):=by
 obtain⟨cs,e1,e2⟩:=h.ex
 have hl:cs.length=10:=by obtain⟨_,_,_,_,_,e,_⟩:=e2.ex;rw[e];rfl
 rw[bxe e1]
 exact⟨bxc e1 _ _ (by omega),⟨h.no,h.bp,h.bm,_,View.ah _ _ _,hd cs e2⟩,Mv.put _ hle h.no (.inl rfl)⟩
theorem rj {t:Tre} {q:ByteArray} {e:Int} (h:b8 t q= .error e):e≠0:=gj h
theorem uS {t:Tre} {q:ByteArray} {i:Nat} (h:b8 t q= .ok i):i<12:=gE h
theorem wO {h:List Int} {i e:Int} (ho:eV h i= .error e):e≠0:=by
 unfold eV at ho
 split at ho
 ·cases ho;decide
 ·split at ho
  ·cases ho;decide
  ·cases ho
theorem wP (hm:iE V0 V p mb m s hs es cl) (hle:V0.Le V) (hd:lD V0 V b p mb ⟨m.t,m.h,[],Ans.e 0⟩) (hc:kQ V0 y c) (hg:Glo V0):af Tryz.prog 64 ⟨[.pointer (some ⟨p,0,none⟩),q8 c y,.pointer (some ⟨b,0,none⟩)]⟩ V fun r V' =>∃V0',Mv (fun i=>i=b) V0 V V0' V' ∧mG b V0' V' r (gr m c):=by
 refine Mq ?_
 unfold G6
 refine fun _=>⟨trivial,V,View.Le.refl _,_,rfl,s,bx1 hm.box 1 rfl, ?_⟩
 refine(af.stp (B:=fun i=>i=b) (K:=fun r V' =>r=we (b8 m.t c.path)) hle (mm hm.tre hc.path hg)).mono ?_
 rintro r V1 ⟨V01,rfl,hS1,hV1⟩
 have hm1:=hm.stp hS1 (fun e=>hd.bp e.symm) (fun e=>hd.bm e.symm)
 have hP:gr m c=match b8 m.t c.path with
  | .error e=> .error e
  | .ok i=>if c.kind=7 then .ok ⟨m.t,m.h,[],⟨0,0,(m.t.getD i default).size,(m.t.getD i default).kind,(m.t.getD i default).links,[],[]⟩⟩else
        if c.kind=8∧(m.t.getD i default).kind≠2 then .error 11 else
        if c.kind=8 then .ok ⟨m.t,m.h,[],⟨0,0,0,0,0,[],(m.t.getD i default).az.map Ent.name⟩⟩else
        if(m.t.getD i default).kind=2 then .error 10 else match eV m.h i with
         | .error e=> .error e
         | .ok (h,k)=> .ok ⟨m.t,h,[],⟨0,k,0,0,0,[],[]⟩⟩:=rfl
 cases hf:b8 m.t c.path with
 | error e=>
   rw[hf]at hP
   rw[hP]
   exact⟨_,_,rfl,aa (fun _=>⟨V01,hS1,rfl,rj hf⟩) (fun h=>absurd (of_decide_eq_true (aD h)) (rj hf))⟩
 | ok i=>
   rw[hf]at hP
   dsimp only at hP
   have hd1:lD V01 V1 b p mb ⟨m.t,m.h,[],Ans.e 0⟩:=by
    obtain⟨cs,e1,e2⟩:=hd.ex
    exact⟨hS1.apart _ hd.no (by rw[e1];simp),hd.bp,hd.bm,cs,hV1.see _ _ e1,e2.mono hS1.base⟩
   have hi:=uS hf
   have h12:=(bP (kR hf)).len
   have hsn:=hm1.tre.n
   obtain⟨ad,sq,en,ha,hcc,hN⟩:=(hm1.tre.mono hS1.sub).bO (i:=i) (by omega)
   obtain⟨ad',sq',en',ha',hcc',hN'⟩:=hm1.tre.bO (i:=i) (by omega)
   have hen:en' =en:=by
    rw[ha]at ha';cases ha'
    have h1:=hcc 4 _ rfl
    have h2:=hS1.sub.cell (hcc' 4 _ rfl)
    rw[h1]at h2
    cases en;cases en'
    simp only [Option.some.injEq,Value.slice.injEq]at h2
    obtain⟨rfl,rfl,rfl⟩:=h2
    rfl
   subst hen
   refine⟨_,_,rfl,aa (fun h=>absurd h (by decide)) (fun _=>⟨_,rfl,s,by rw[Addr.add_add];exact bx hm1.box 1 rfl,by omega,by omega,ad,ha,_,_,_,sq,en',hcc,fun _=> ?_⟩)⟩
   have hfin:∀(e:Int) (V2:View),(∃V02,Mv (fun i=>i=b) V0 V V02 V2∧mG b V02 V2 (.int .i64 e) (gr m c))→∃V0',Mv (fun i=>i=b) V0 V V0' V2∧mG b V0' V2 (.int .i64 e) (gr m c):=fun _ _ h=>h
   refine ai (fun q V2=>∃V02,Mv (fun i=>i=b) V0 V V02 V2∧mG b V02 V2 (.int .i64 q.1) (gr m c)) (aa (fun hk=> ?_) (fun hk=>aa (fun hk2=> ?_) (fun hk2=> ?_))) (by rintro⟨q,⟨⟩⟩ V2 h;exact h)
   ·rw[if_pos (of_decide_eq_true hk)]at hP
    rw[hP]
    obtain⟨k1,k2,k3⟩:=hd1.set (d' :=⟨m.t,m.h,[],⟨0,0,(m.t.getD i default).size,(m.t.getD i default).kind,(m.t.getD i default).links,[],[]⟩⟩) hS1.sub 3 [.int .i64 0,.int .i64 0,.int .i64 (m.t.getD i default).size,.int .i64 (m.t.getD i default).kind,.int .i64 (m.t.getD i default).links,.slice none 0 0,.slice none 0 0] (by simp) (by
     rintro cs ⟨s,hs,y,x,n,rfl,h1,h2,h3,h4,h5⟩
     exact⟨s,hs,y,⟨none,0,0⟩,⟨none,0,0⟩,rfl,h1,h2,h3,SlR.nil _ _ _,SlR.nil _ _ _⟩)
    exact⟨_,rfl,k1,V01,hS1.trans k3,rfl,k2.ex⟩
   ·have hk:=of_decide_eq_false hk
    have hk2:c.kind=8∧(m.t.getD i default).kind≠2:=by
     by_cases h8:c.kind=8
     ·rw[decide_eq_true h8]at hk2;exact⟨h8,of_decide_eq_false (aM hk2)⟩
     ·rw[decide_eq_false h8]at hk2;cases hk2
    rw[if_neg hk,if_pos hk2]at hP
    rw[hP]
    exact⟨V01,hS1,rfl,by decide⟩
   ·have hk:=of_decide_eq_false hk
    have hk2:¬(c.kind=8∧(m.t.getD i default).kind≠2):=by
     rintro⟨h8,h9⟩
     rw[decide_eq_true h8,decide_eq_false h9]at hk2;cases hk2
    rw[if_neg hk,if_neg hk2]at hP
    refine ai (fun q V2=>∃V02,Mv (fun i=>i=b) V0 V V02 V2∧mG b V02 V2 (.int .i64 q.1) (gr m c)) (aa (fun hk3=> ?_) (fun hk3=>aa (fun hk4=> ?_) (fun hk4=> ?_))) (by rintro⟨q,⟨⟩⟩ V2 h;exact h)
    ·rw[if_pos (of_decide_eq_true hk3)]at hP
     rw[hP]
     have hml:(m.t.getD i default).az.length≤1000:=by
      have:=(jP ((bP (kR hf)).at hi)).2
      exact this
     refine(af.stp (B:=fun i=>i=b) (K:=fun r V' =>∃x:Sl,r= .slice x.a x.n x.c∧SlR V' x ((m.t.getD i default).az.map Ent.name)) hS1.sub ((Au hN'.az hml).mono fun r V' ⟨x,h1,h2,h3⟩=>⟨⟨x,h1,h2⟩,h3⟩)).mono ?_
     rintro r V2 ⟨V02,⟨x,rfl,hx⟩,hS2,hV2⟩
     have hd2:lD V02 V2 b p mb ⟨m.t,m.h,[],Ans.e 0⟩:=by
      obtain⟨cs,e1,e2⟩:=hd1.ex
      exact⟨hS2.apart _ hd1.no (by rw[e1];simp),hd1.bp,hd1.bm,cs,hV2.see _ _ e1,e2.mono hS2.base⟩
     obtain⟨k1,k2,k3⟩:=hd2.set (d' :=⟨m.t,m.h,[],⟨0,0,0,0,0,[],(m.t.getD i default).az.map Ent.name⟩⟩) hS2.sub 9 [.slice x.a x.n x.c] (by simp) (by
      rintro cs ⟨s,hs,y,z,n,rfl,h1,h2,h3,h4,h5⟩
      exact⟨s,hs,y,z,x,rfl,h1,h2,h3,h4,hx⟩)
     refine⟨x,rfl,_,rfl, ?_⟩
     rw[Addr.add_add]
     exact⟨k1,V02,(hS1.trans hS2).trans k3,rfl,k2.ex⟩
    ·rw[if_neg (of_decide_eq_false hk3),if_pos (of_decide_eq_true hk4)]at hP
     rw[hP]
     exact⟨V01,hS1,rfl,by decide⟩
    ·rw[if_neg (of_decide_eq_false hk3),if_neg (of_decide_eq_false hk4)]at hP
     refine⟨_,rfl,hs,bx hm1.box 2 rfl, ?_⟩
     refine(af.stp (B:=fun i=>i=b) (K:=fun r V' =>∃W,wH W V' r (eV m.h i)) hS1.sub ((wJ hm1.bW).mono fun r V' h=>⟨⟨_,h⟩, ?_⟩)).mono ?_
     ·cases ho:eV m.h i with
      | error e=>rw[ho]at h;rw[h.2];exact View.Le.refl _
      | ok o=>rw[ho]at h;obtain⟨x,_,_,h3⟩:=h;exact h3
     rintro r V2 ⟨V02,⟨W,hx⟩,hS2,hV2⟩
     have hd2:lD V02 V2 b p mb ⟨m.t,m.h,[],Ans.e 0⟩:=by
      obtain⟨cs,e1,e2⟩:=hd1.ex
      exact⟨hS2.apart _ hd1.no (by rw[e1];simp),hd1.bp,hd1.bm,cs,hV2.see _ _ e1,e2.mono hS2.base⟩
     cases ho:eV m.h i with
     | error e=>
       rw[ho]at hx hP
       obtain⟨rfl,_⟩:=hx
       rw[hP]
       obtain⟨k1,k2,k3⟩:=hd2.set (d' :=⟨m.t,[],[],Ans.e 0⟩) hS2.sub 1 [.slice none 0 0] (by simp) (by
        rintro cs ⟨s,hs,y,z,n,rfl,h1,h2,h3,h4,h5⟩
        exact⟨s,⟨none,0,0⟩,y,z,n,rfl,h1,SlR.nil _ _ _,h3,h4,h5⟩)
       obtain⟨l1,l2,l3⟩:=k2.set (d' :=⟨m.t,[],[],Ans.e 0⟩) k3.sub 4 [.int .i64 0] (by simp) (by
        rintro cs ⟨s,hs,y,z,n,rfl,h1,h2,h3,h4,h5⟩
        exact⟨s,hs,y,z,n,rfl,h1,h2,h3,h4,h5⟩)
       refine⟨⟨none,0,0⟩,_,_,rfl,_,rfl,k1,_,rfl, ?_⟩
       rw[Addr.add_add]
       exact⟨l1,V02,((hS1.trans hS2).trans k3).trans l3,rfl,wO ho⟩
     | ok o=>
       obtain⟨h',k⟩:=o
       rw[ho]at hx hP
       obtain⟨x,rfl,hx,_⟩:=hx
       rw[hP]
       obtain⟨k1,k2,k3⟩:=hd2.set (d' :=⟨m.t,h',[],Ans.e 0⟩) hS2.sub 1 [.slice x.a x.n x.c] (by simp) (by
        rintro cs ⟨s,hs,y,z,n,rfl,h1,h2,h3,h4,h5⟩
        exact⟨s,x,y,z,n,rfl,h1,hx,h3,h4,h5⟩)
       obtain⟨l1,l2,l3⟩:=k2.set (d' :=⟨m.t,h',[],⟨0,k,0,0,0,[],[]⟩⟩) k3.sub 4 [.int .i64 k] (by simp) (by
        rintro cs ⟨s,hs,y,z,n,rfl,h1,h2,h3,h4,h5⟩
        exact⟨s,hs,y,z,n,rfl,h1,h2,h3,h4,h5⟩)
       refine⟨x,_,_,rfl,_,rfl,k1,_,rfl, ?_⟩
       rw[Addr.add_add]
       exact⟨l1,V02,((hS1.trans hS2).trans k3).trans l3,rfl,l2.ex⟩
end
theorem ow {h:List Int} {i e:Int} (ho:dO h i= .error e):e≠0:=by
 unfold dO ofH at ho
 split at ho
 ·rename_i e' he
  cases ho
  split at he
  ·cases he;decide
  ·split at he
   ·cases he;decide
   ·cases he
 ·cases ho
theorem yx {h:List Int} {i e:Int} (he:ofH h i= .error e):e≠0:=by
 unfold ofH at he
 split at he
 ·cases he;decide
 ·split at he
  ·cases he;decide
  ·cases he
theorem iP {h l:List Int} {i n:Int} (ho:dO h i= .ok (l,n)):cY h=false∧0≤n∧n<12∧cY l=false∧l=h.set i.toNat (-1)∧0≤i∧i<4∧n=h.getD i.toNat 0:=by
 unfold dO at ho
 split at ho
 ·cases ho
 ·rename_i n' hn
  cases ho
  obtain⟨h1,h2,h3,h4,h5,h6⟩:=qY hn
  refine⟨h1,h5,h6, ?_,rfl,h2,h3,h4⟩
  unfold cY
  rw[Bool.or_eq_false_iff]
  constructor
  ·rw[List.length_set,cT h1];rfl
  ·rw[List.any_eq_false]
   intro x hx
   rcases List.mem_or_eq_of_mem_set hx with h | h
   ·have:=jC h1 h
    simp;omega
   ·subst h;decide
theorem lA {h:List Int} (ho:cY h=false):(de h).length=12:=by
 unfold de;rw[if_neg (by rw[ho];decide)];simp
theorem SlR.HR {V:View} {s:Sl} {l:List Bool} (h:SlR V s l) {i:Nat} (hi:i<l.length):
  ∃ad,s.a=some ad∧V.cell? (ad.add (i*1))=some (.bool (l.getD i false)):=by
 obtain⟨ad,hx,ha,hc⟩:=h.bool (x:=(i:Int)) (by omega) (by have:=h.n;omega)
 have e:l.getD i false=l[i]:=by rw[List.getD_eq_getElem?_getD,List.getElem?_eq_getElem hi];rfl
 rw[e]
 exact⟨ad,ha,hc⟩
section
variable {V0 V:View} {p mb b:Nat} {m:bQ} {c:Cal} {y:Sl} {s hs:Sl} {es:Array MapEntry} {cl:Nat}
theorem lD.grow {V0' V' :View} {d:Dee} (h:lD V0 V b p mb d) (k:Mv (fun i=>i=b) V0 V V0' V') (hV:V.Le V'):lD V0' V' b p mb d:=by
 obtain⟨cs,e1,e2⟩:=h.ex
 exact⟨k.apart _ h.no (by rw[e1];simp),h.bp,h.bm,cs,hV.see _ _ e1,e2.mono k.base⟩
theorem uT (hm:iE V0 V p mb m s hs es cl) (hle:V0.Le V) (hM:aY m.t=true) (hd:lD V0 V b p mb ⟨m.t,m.h,[],Ans.e 0⟩):af Tryz.prog 65 ⟨[.pointer (some ⟨p,0,none⟩),q8 c y,.pointer (some ⟨b,0,none⟩)]⟩ V fun r V' =>∃V0',Mv (fun i=>i=b) V0 V V0' V' ∧mG b V0' V' r (gU m c):=by
 refine Mr ?_
 unfold G7
 have hp1:¬p=b:=fun e=>hd.bp e.symm
 have hp2:¬mb=b:=fun e=>hd.bm e.symm
 refine fun _=>⟨trivial,V,View.Le.refl _,_,rfl,hs,bx hm.box 2 rfl, ?_⟩
 refine(af.stp (B:=fun i=>i=b) (K:=fun r V' =>∃W,wH W V' r (dO m.h c.hand)) hle ((uP hm.bW).mono fun r V' h=>⟨⟨_,h⟩, ?_⟩)).mono ?_
 ·cases ho:dO m.h c.hand with
  | error e=>rw[ho]at h;rw[h.2];exact View.Le.refl _
  | ok o=>rw[ho]at h;obtain⟨x,_,_,h3⟩:=h;exact h3
 rintro r V1 ⟨V01,⟨W,hx⟩,hS1,hV1⟩
 have hm1:=hm.stp hS1 hp1 hp2
 have hd1:=hd.grow hS1 hV1
 have hP:gU m c=match dO m.h c.hand with
  | .error e=> .error e
  | .ok (h,i)=>if(m.t.getD i.toNat default).links=0∧ct (de h) i.toNat=false then match c9 m.t i with
    | .error e=> .error e
    | .ok t=> .ok ⟨t,h,[],Ans.e 0⟩
    else .ok ⟨m.t,h,[],Ans.e 0⟩:=rfl
 cases ho:dO m.h c.hand with
 | error e=>
   rw[ho]at hx hP
   obtain⟨rfl,_⟩:=hx
   rw[hP]
   exact⟨⟨none,0,0⟩,_,_,rfl,aa (fun _=>⟨V01,hS1,rfl,ow ho⟩) (fun h=>absurd (of_decide_eq_true (aD h)) (ow ho))⟩
 | ok o=>
   obtain⟨l,n⟩:=o
   rw[ho]at hx hP
   obtain⟨x,rfl,hx,_⟩:=hx
   dsimp only at hP
   obtain⟨_,hn0,hn12,hol,_⟩:=iP ho
   have h12:=(bP hM).len
   obtain⟨k1,k2,k3⟩:=hd1.set (d' :=⟨m.t,l,[],Ans.e 0⟩) hS1.sub 1 [.slice x.a x.n x.c] (by simp) (by
    rintro cs ⟨s,hs,y,z,n,rfl,h1,h2,h3,h4,h5⟩
    exact⟨s,x,y,z,n,rfl,h1,hx,h3,h4,h5⟩)
   refine⟨x,_,_,rfl,aa (fun h=>absurd h (by decide)) (fun _=>⟨_,rfl,k1, ?_⟩)⟩
   generalize V1.sets ((⟨b,0,none⟩:Addr).add 1) [.slice x.a x.n x.c]=V2 at k2 k3
   have hm2:=hm1.stp k3 hp1 hp2
   have hS2:=hS1.trans k3
   have hsn:=hm2.tre.n
   obtain⟨ad,sq,en,ha,hcc,hN⟩:=(hm2.tre.mono k3.sub).bO (i:=n.toNat) (by omega)
   refine ai (fun q V3=>q.1=decide ((m.t.getD n.toNat default).links=0∧ct (de l) n.toNat=false)∧V2.Le V3) ⟨_,rfl,s,by rw[Addr.add_add];exact bx hm2.box 1 rfl,by omega,by omega,ad,ha,_,av hcc 1 rfl,aa (fun hb=> ?_) (fun hb=>⟨?_,View.Le.refl _⟩)⟩ ?_
   ·refine(oY (hx.mono k3.sub)).mono ?_
    rintro r V3 ⟨z,rfl,hz,hV3⟩
    have hzn:=hz.n
    rw[lA hol]at hzn
    obtain⟨ad2,ha2,hc2⟩:=hz.HR (i:=n.toNat) (by rw[lA hol];omega)
    refine⟨z,rfl,by omega,by omega,ad2,ha2,_,hc2, ?_,hV3⟩
    have hb:=of_decide_eq_true hb
    show(!((de l).getD n.toNat false))=decide ((m.t.getD n.toNat default).links=0∧ct (de l) n.toNat=false)
    unfold ct
    rcases Bool.eq_false_or_eq_true ((de l).getD n.toNat false)with h | h
    ·rw[h,decide_eq_false (fun h=>by cases h.2)];rfl
    ·rw[h,decide_eq_true ⟨hb,rfl⟩];rfl
   ·have hb:=of_decide_eq_false hb
    exact(decide_eq_false (fun h=>hb h.1)).symm
   rintro⟨q,⟨⟩⟩ V3 ⟨h1,hV3⟩
   have h1:q=decide ((m.t.getD n.toNat default).links=0∧ct (de l) n.toNat=false):=h1
   have hV3:V2.Le V3:=hV3
   subst h1
   dsimp only [unc]
   have hS3:Mv (fun i=>i=b) V01 V2 V01 V3:=Mv.grow k3.sub hV3
   have hm3:=hm2.stp hS3 hp1 hp2
   have hd3:=k2.grow hS3 hV3
   refine ai (fun q V4=>∃V04,Mv (fun i=>i=b) V0 V V04 V4∧mG b V04 V4 (.int .i64 q.1) (gU m c)) (aa (fun hb=> ?_) (fun hb=> ?_)) (by rintro⟨q,⟨⟩⟩ V4 h;exact h)
   ·rw[if_pos (of_decide_eq_true hb)]at hP
    refine⟨_,rfl,s,bx1 hm3.box 1 rfl,(af.stp (B:=fun i=>i=b) (K:=fun r V' =>gH V01 V' r (c9 m.t n)) hS3.sub ((zw hm3.tre).mono fun r V' h=>⟨h,h.2⟩)).mono ?_⟩
    rintro r V4 ⟨V04,⟨⟨z,e,rfl,hz⟩,_⟩,hS4,hV4⟩
    have hd4:=hd3.grow hS4 hV4
    cases hdr:c9 m.t n with
    | error e' =>
      rw[hdr]at hz hP
      obtain⟨rfl,he,hz⟩:=hz
      rw[hP]
      obtain⟨l1,l2,l3⟩:=hd4.set (d' :=⟨[],l,[],Ans.e 0⟩) hS4.sub 0 [.slice z.a z.n z.c] (by simp) (by
       rintro cs ⟨s,hs,y,w,n,rfl,h1,h2,h3,h4,h5⟩
       exact⟨z,hs,y,w,n,rfl,hz,h2,h3,h4,h5⟩)
      exact⟨z,_,rfl,_,rfl,l1,V04,((hS2.trans hS3).trans hS4).trans l3,rfl,he⟩
    | ok u=>
      rw[hdr]at hz hP
      obtain⟨rfl,hz⟩:=hz
      rw[hP]
      obtain⟨l1,l2,l3⟩:=hd4.set (d' :=⟨u,l,[],Ans.e 0⟩) hS4.sub 0 [.slice z.a z.n z.c] (by simp) (by
       rintro cs ⟨s,hs,y,w,n,rfl,h1,h2,h3,h4,h5⟩
       exact⟨z,hs,y,w,n,rfl,hz,h2,h3,h4,h5⟩)
      exact⟨z,_,rfl,_,rfl,l1,V04,((hS2.trans hS3).trans hS4).trans l3,rfl,l2.ex⟩
   ·rw[if_neg (of_decide_eq_false hb)]at hP
    rw[hP]
    exact⟨V01,hS2.trans hS3,rfl,hd3.ex⟩
theorem nK {B:Nat→Prop} {f:FuncId} {args:Array Value} {o:Except Int (Tre×List Tod)} (hle:V0.Le V) (h:af Tryz.prog f args V0 fun r V' =>As V0 V' r o):
  af Tryz.prog f args V fun r V' =>∃V0',(∃W,As W V0' r o)∧Mv B V0 V V0' V' ∧V.Le V' :=by
 refine af.stp hle (h.mono fun r V' h=>⟨⟨_,h⟩, ?_⟩)
 cases o with
 | error e=>exact h.2.2
 | ok o=>obtain⟨u,l⟩:=o;obtain⟨x,y,_,_,_,h4⟩:=h;exact h4
end
theorem Mv.Lm {V0 V V' :View} {b:Nat} (h:V0.Le V) (hn:V0.see b=none) (hH:(V.bt b).Le V') (hb:V.see b≠none→V'.see b≠none):Mv (fun i=>i=b) V0 V V0 V' :=by
 refine⟨h,View.Le.refl _, ?_,fun _ h _=>h,fun i o hi ho=> ?_,fun i hi=> ?_,hH.size⟩
 ·refine⟨Nat.le_trans h.size hH.size,fun i o ho=> ?_,hH.out.trans h.out⟩
  have hne:i≠b:=fun e=>by rw[e,hn]at ho;cases ho
  exact hH.see i o (by rw[aO,if_neg hne];exact h.see i o ho)
 ·exact hH.see i o (by rw[aO,if_neg hi];exact ho)
 ·by_cases e:i=b
  ·subst e;exact hb hi
  ·cases hs:V.see i with
   | none=>exact absurd hs hi
   | some o=>rw[hH.see i o (by rw[aO,if_neg e];exact hs)];simp
theorem Buf.share {α:Type} [Rep α] {B:Nat→Prop} {V0 V V0' V' :View} {x:Sl} {e:TypeId} {cs:List Value} {l:List α} (h:Buf V' x e (Rep.sz α) cs) (k:Mv B V0 V V0' V') (hr:aR V0' cs l) (hv:∀i,V.see i≠none→(V'.minus x).see i≠none) (h0:V0'.Le (V'.minus x)):
  ∃V0'',Mv B V0 V V0'' V' ∧V0'.Le V0'' ∧SlR V0'' x l∧∀i,V'.see i≠none→(V'.minus x).see i≠none→V0'.see i=none→V0''.see i=none:=by
 rcases h.own with ⟨ha,hc⟩ | ⟨r,all,ha,hs,hl,ht⟩
 ·refine⟨V0',k,View.Le.refl _, ?_,fun _ _ _ h=>h⟩
  exact Buf.slR (V:=V0') (W:=V0') (e:=e) ⟨h.len,h.le,h.lim,.inl ⟨ha,hc⟩⟩ hr (View.Le.refl _)
 ·have hmn:(V'.minus x).see r=none:=gm (V:=V') ha
  have hn:V0'.see r=none:=b5 h0 hmn
  have hr0:V.see r=none:=by
   cases hv0:V.see r with
   | none=>rfl
   | some o=>exact absurd hmn (hv r (by rw[hv0];simp))
  refine⟨V0'.put r (.cells ⟨all⟩ e (0,0)),k.share hr0 hs hn,View.bB hn, ?_,fun i hi h1 h2=> ?_⟩
  ·exact Buf.slR (V:=V0'.put r (.cells ⟨all⟩ e (0,0))) (W:=V0'.put r (.cells ⟨all⟩ e (0,0))) (e:=e) ⟨h.len,h.le,h.lim,.inr ⟨r,all,ha,View.ah _ _ _,hl,ht⟩⟩ (hr.mono (View.bB hn)) (View.Le.refl _)
  ·have hne:i≠r:=fun e=>by rw[e]at h1;exact h1 hmn
   rw[View.aF _ _ hne];exact h2
theorem oZ {pg:Int→List UInt8} {l:List Pce} {j:Nat} (h:j<l.length):cU pg (l.take (j+1))=cU pg (l.take j)++((pg (l.getD j default).aS).take ((l.getD j default).from_+(l.getD j default).len).toNat).drop (l.getD j default).from_.toNat:=by
 unfold cU
 rw[eI h,List.flatMap_append,List.flatMap_singleton]
theorem mI (pg:Int→List UInt8) (hpg:∀q,(pg q).length=16):∀l:List Pce,(cU pg l).length≤16*l.length
 | []=>by simp [cU]
 | p::l=>by
   have:=mI pg hpg l
   have e:cU pg (p::l)=((pg p.aS).take (p.from_+p.len).toNat).drop p.from_.toNat++cU pg l:=rfl
   rw[e,List.length_append,List.length_cons,List.length_drop,List.length_take,hpg]
   omega
theorem dP {V:View} {x:Sl} {b:Nat} {o o' :Obj} (h:(V.minus x).see b=some o):(V.put b o').minus x=(V.minus x).put b o' :=by
 unfold View.minus at h ⊢
 cases hx:x.a with
 | none=>rfl
 | some a=>
   rw[hx]at h
   simp only [aO]at h
   split at h
   ·cases h
   ·rename_i hne
    show(V.put b o').bt a.block=(V.bt a.block).put b o'
    unfold View.bt View.put
    congr 1
    funext j
    by_cases h1:j=b
    ·subst h1;simp [hne]
    ·simp [h1]
theorem Buf.ox {V:View} {x:Sl} {e:TypeId} {sz:Nat} {cs:List Value} {b:Nat} {o o' :Obj} (h:Buf V x e sz cs) (hb:(V.minus x).see b=some o):Buf (V.put b o') x e sz cs:=by
 refine⟨h.len,h.le,h.lim,h.own.imp id ?_⟩
 rintro⟨r,all,h1,h2,h3⟩
 refine⟨r,all,h1, ?_,h3⟩
 have hne:r≠b:=by
  rintro rfl
  have:=gm (V:=V) h1
  rw[show({ block:=r,off:=0,spot:=none } :Addr).block=r from rfl]at this
  rw[this]at hb;cases hb
 rw[View.aF _ _ hne];exact h2
theorem nL {V W:View} {b:Nat} {o:Obj} (h:(V.bt b).Le W):(V.bt b).Le (W.put b o):=by
 refine⟨Nat.le_trans h.size (Nat.le_max_left _ _),fun i o' hi=> ?_,h.out⟩
 have hne:i≠b:=fun e=>by rw[e,aO,if_pos rfl]at hi;cases hi
 rw[View.aF _ _ hne];exact h.see _ _ hi
section
variable {V0 V:View} {p mb b:Nat} {m:bQ} {c:Cal} {y:Sl} {s hs:Sl} {es:Array MapEntry} {cl:Nat}
theorem wQ {t:Tre} {i a n e:Int} (h:dQ t i a n= .error e):e≠0:=by
 unfold dQ at h
 split at h
 ·cases h;decide
 ·cases h
theorem yy (hm:iE V0 V p mb m s hs es cl) (hle:V0.Le V) (hM:aY m.t=true) (hdat:inI .i64 m.data) (hP16:∀q b,m.P q=some b→b.length=16) (hc:kQ V0 y c) (hn0:V0.see b=none) (hbp:b≠p) (hbm:b≠mb)
  (hb0:V.see b=some (.cells ⟨[.slice s.a s.n s.c,.slice hs.a hs.n hs.c,.slice none 0 0,.int .i64 0,.int .i64 0,.int .i64 0,.int .i64 0,.int .i64 0,.slice none 0 0,.slice none 0 0]⟩ 74 (0,0))):
  af Tryz.prog 66 ⟨[.pointer (some ⟨p,0,none⟩),q8 c y,.pointer (some ⟨b,0,none⟩)]⟩ V fun r V' =>∃V0',Mv (fun i=>i=b) V0 V V0' V' ∧mG b V0' V' r (j5 m c):=by
 refine Ms ?_
 unfold G8
 have hd:lD V0 V b p mb ⟨m.t,m.h,[],Ans.e 0⟩:=⟨hn0,hbp,hbm,_,hb0,⟨s,hs,⟨none,0,0⟩,⟨none,0,0⟩,⟨none,0,0⟩,rfl,hm.tre,hm.bW,SlR.nil _ _ _,SlR.nil _ _ _,SlR.nil _ _ _⟩⟩
 have hp1:¬p=b:=fun e=>hd.bp e.symm
 have hp2:¬mb=b:=fun e=>hd.bm e.symm
 refine fun _=>⟨trivial,V,View.Le.refl _,_,rfl,hs,bx hm.box 2 rfl,(tw (hm.bW.mono hle)).mono ?_⟩
 rintro r V1 ⟨rfl,rfl⟩
 have hP:j5 m c=match ofH m.h c.hand with
  | .error e=> .error e
  | .ok i=>
    if c.kind=12 then match cE m.t m.data i c.at_ c.data with
     | .error e=> .error e
     | .ok (u,l)=> .ok ⟨u,m.h,l,⟨0,0,c.data.length,0,0,[],[]⟩⟩
    else if c.kind=13 then match c5 m.t i c.at_ with
     | .error e=> .error e
     | .ok (u,l)=> .ok ⟨u,m.h,l,Ans.e 0⟩
    else match dQ m.t i c.at_ c.len with
     | .error e=> .error e
     | .ok l=> .ok ⟨m.t,m.h,[],⟨0,0,(cU (fun p=>pgP m.P ((m.t.getD i.toNat default).an.getD p.toNat 0)) l).length,0,0,cU (fun p=>pgP m.P ((m.t.getD i.toNat default).an.getD p.toNat 0)) l,[]⟩⟩:=rfl
 cases ho:ofH m.h c.hand with
 | error e=>
   rw[ho]at hP
   rw[hP]
   exact⟨_,_,rfl,aa (fun _=>⟨V0,Mv.refl hle,rfl,yx ho⟩) (fun h=>absurd (of_decide_eq_true (aD h)) (yx ho))⟩
 | ok i=>
   rw[ho]at hP
   dsimp only at hP
   obtain⟨_,_,_,_,hi0,hi12⟩:=qY ho
   have h12:=(bP hM).len
   have hyn:=hc.data.n
   refine⟨_,_,rfl,aa (fun h=>absurd h (by decide)) (fun _=> ?_)⟩
   refine ai (fun q V4=>∃V04,Mv (fun i=>i=b) V0 V1 V04 V4∧mG b V04 V4 (.int .i64 q.1) (j5 m c)) (aa (fun hk=> ?_) (fun hk=> ?_)) (by rintro⟨q,⟨⟩⟩ V4 h;exact h)
   ·rw[if_pos (of_decide_eq_true hk)]at hP
    have hyE:(y.n:Int)=(c.data.length:Int):=by omega
    obtain⟨k1,k2,k3⟩:=hd.set (d' :=⟨m.t,m.h,[],⟨0,0,c.data.length,0,0,[],[]⟩⟩) hle 5 [.int .i64 c.data.length] (by simp) (by
     rintro cs ⟨s,hs,y',z,n,rfl,h1,h2,h3,h4,h5⟩
     exact⟨s,hs,y',z,n,rfl,h1,h2,h3,h4,h5⟩)
    rw[hyE]
    refine⟨_,rfl, ?_⟩
    rw[Addr.add_add]
    refine⟨k1,trivial,_,View.Le.refl _, ?_⟩
    generalize V1.sets ((⟨b,0,none⟩:Addr).add (3+2)) [.int .i64 (c.data.length:Int)]=V2 at k2 k3
    have hm2:=hm.stp k3 hp1 hp2
    refine⟨_,rfl,s,bx1 hm2.box 1 rfl,_,rfl,_,bx hm2.box 0 rfl, ?_⟩
    refine(nK (B:=fun i=>i=b) k3.sub (uL hm.tre hc.data hdat)).mono ?_
    rintro r V3 ⟨V03,⟨W,hx⟩,hS3,hV3⟩
    have hd3:=k2.grow hS3 hV3
    cases hw:cE m.t m.data i c.at_ c.data with
    | error e=>
      rw[hw]at hx hP
      obtain⟨rfl,he,_⟩:=hx
      dsimp only at hP
      rw[hP]
      obtain⟨l1,l2,l3⟩:=hd3.set (d' :=⟨[],m.h,[],⟨0,0,c.data.length,0,0,[],[]⟩⟩) hS3.sub 0 [.slice none 0 0] (by simp) (by
       rintro cs ⟨s,hs,y',z,n,rfl,h1,h2,h3,h4,h5⟩
       exact⟨⟨none,0,0⟩,hs,y',z,n,rfl,SlR.nil _ _ _,h2,h3,h4,h5⟩)
      obtain⟨n1,n2,n3⟩:=l2.set (d' :=⟨[],m.h,[],⟨0,0,c.data.length,0,0,[],[]⟩⟩) l3.sub 2 [.slice none 0 0] (by simp) (by
       rintro cs ⟨s,hs,y',z,n,rfl,h1,h2,h3,h4,h5⟩
       exact⟨s,hs,⟨none,0,0⟩,z,n,rfl,h1,h2,SlR.nil _ _ _,h4,h5⟩)
      exact⟨⟨none,0,0⟩,⟨none,0,0⟩,_,rfl,_,rfl,l1,_,rfl,n1,V03,((k3.trans hS3).trans l3).trans n3,rfl,he⟩
    | ok o=>
      obtain⟨u,l⟩:=o
      rw[hw]at hx hP
      obtain⟨x,w,rfl,hx,hw',_⟩:=hx
      dsimp only at hP
      rw[hP]
      obtain⟨l1,l2,l3⟩:=hd3.set (d' :=⟨u,m.h,[],⟨0,0,c.data.length,0,0,[],[]⟩⟩) hS3.sub 0 [.slice x.a x.n x.c] (by simp) (by
       rintro cs ⟨s,hs,y',z,n,rfl,h1,h2,h3,h4,h5⟩
       exact⟨x,hs,y',z,n,rfl,hx,h2,h3,h4,h5⟩)
      obtain⟨n1,n2,n3⟩:=l2.set (d' :=⟨u,m.h,l,⟨0,0,c.data.length,0,0,[],[]⟩⟩) l3.sub 2 [.slice w.a w.n w.c] (by simp) (by
       rintro cs ⟨s,hs,y',z,n,rfl,h1,h2,h3,h4,h5⟩
       exact⟨s,hs,w,z,n,rfl,h1,h2,hw',h4,h5⟩)
      exact⟨x,w,_,rfl,_,rfl,l1,_,rfl,n1,V03,((k3.trans hS3).trans l3).trans n3,rfl,n2.ex⟩
   ·rw[if_neg (of_decide_eq_false hk)]at hP
    refine ai (fun q V4=>∃V04,Mv (fun i=>i=b) V0 V1 V04 V4∧mG b V04 V4 (.int .i64 q.1) (j5 m c)) (aa (fun hk2=> ?_) (fun hk2=> ?_)) (by rintro⟨q,⟨⟩⟩ V4 h;exact h)
    ·rw[if_pos (of_decide_eq_true hk2)]at hP
     refine⟨trivial,V1,View.Le.refl _,_,rfl,s,bx1 hm.box 1 rfl, ?_⟩
     refine(nK (B:=fun i=>i=b) hle (uN hm.tre)).mono ?_
     rintro r V3 ⟨V03,⟨W,hx⟩,hS3,hV3⟩
     have hd3:=hd.grow hS3 hV3
     cases hw:c5 m.t i c.at_ with
     | error e=>
       rw[hw]at hx hP
       obtain⟨rfl,he,_⟩:=hx
       dsimp only at hP
       rw[hP]
       obtain⟨l1,l2,l3⟩:=hd3.set (d' :=⟨[],m.h,[],Ans.e 0⟩) hS3.sub 0 [.slice none 0 0] (by simp) (by
        rintro cs ⟨s,hs,y',z,n,rfl,h1,h2,h3,h4,h5⟩
        exact⟨⟨none,0,0⟩,hs,y',z,n,rfl,SlR.nil _ _ _,h2,h3,h4,h5⟩)
       obtain⟨n1,n2,n3⟩:=l2.set (d' :=⟨[],m.h,[],Ans.e 0⟩) l3.sub 2 [.slice none 0 0] (by simp) (by
        rintro cs ⟨s,hs,y',z,n,rfl,h1,h2,h3,h4,h5⟩
        exact⟨s,hs,⟨none,0,0⟩,z,n,rfl,h1,h2,SlR.nil _ _ _,h4,h5⟩)
       exact⟨⟨none,0,0⟩,⟨none,0,0⟩,_,rfl,_,rfl,l1,_,rfl,n1,V03,(hS3.trans l3).trans n3,rfl,he⟩
     | ok o=>
       obtain⟨u,l⟩:=o
       rw[hw]at hx hP
       obtain⟨x,w,rfl,hx,hw',_⟩:=hx
       dsimp only at hP
       rw[hP]
       obtain⟨l1,l2,l3⟩:=hd3.set (d' :=⟨u,m.h,[],Ans.e 0⟩) hS3.sub 0 [.slice x.a x.n x.c] (by simp) (by
        rintro cs ⟨s,hs,y',z,n,rfl,h1,h2,h3,h4,h5⟩
        exact⟨x,hs,y',z,n,rfl,hx,h2,h3,h4,h5⟩)
       obtain⟨n1,n2,n3⟩:=l2.set (d' :=⟨u,m.h,l,Ans.e 0⟩) l3.sub 2 [.slice w.a w.n w.c] (by simp) (by
        rintro cs ⟨s,hs,y',z,n,rfl,h1,h2,h3,h4,h5⟩
        exact⟨s,hs,w,z,n,rfl,h1,h2,hw',h4,h5⟩)
       exact⟨x,w,_,rfl,_,rfl,l1,_,rfl,n1,V03,(hS3.trans l3).trans n3,rfl,n2.ex⟩
    ·rw[if_neg (of_decide_eq_false hk2)]at hP
     refine⟨trivial,V1,View.Le.refl _,_,rfl,s,bx1 hm.box 1 rfl, ?_⟩
     refine(af.stp (B:=fun i=>i=b) (K:=fun r V' =>∃W,FJ W V' r (dQ m.t i c.at_ c.len)) hle ((vQ hm.tre).mono fun r V' h=>⟨⟨_,h⟩, ?_⟩)).mono ?_
     ·cases hr:dQ m.t i c.at_ c.len with
      | error e=>rw[hr]at h;exact h.2
      | ok l=>rw[hr]at h;obtain⟨x,_,_,h3⟩:=h;exact h3
     rintro r V2 ⟨V02,⟨W,hx⟩,hS2,hV2⟩
     have hm2:=hm.stp hS2 hp1 hp2
     have hb2:=hV2.see _ _ hb0
     have hn2:V02.see b=none:=hS2.apart _ hn0 (by rw[hb0];simp)
     obtain⟨x,l,e,rfl,hx,hcase⟩:∃(x:Sl) (l:List Pce) (e:Int),r= .tuple ⟨[.slice x.a x.n x.c,.int .i64 e]⟩∧SlR V02 x l∧((e=0∧dQ m.t i c.at_ c.len= .ok l)∨(dQ m.t i c.at_ c.len= .error e∧e≠0∧l= [])):=by
      cases hr:dQ m.t i c.at_ c.len with
      | error e=>
        rw[hr]at hx
        exact⟨⟨none,0,0⟩,[],e,hx.1,SlR.nil _ _ _,.inr ⟨rfl,wQ hr,rfl⟩⟩
      | ok l=>
        rw[hr]at hx
        obtain⟨x,h1,h2,_⟩:=hx
        exact⟨x,l,0,h1,h2,.inl ⟨rfl,rfl⟩⟩
     have hl80:l.length≤80∧(l≠ []→(m.t.getD i.toNat default).an.length=5)∧∀q∈l,0≤q.aS∧q.aS<5∧0≤q.from_∧0<q.len∧q.from_+q.len≤16:=by
      rcases hcase with ⟨_,h⟩ | ⟨_,_,rfl⟩
      ·unfold dQ at h
       split at h
       ·cases h
       ·rename_i hq
        cases h
        have hq1:bL m.t i=true:=by
         cases hh:bL m.t i with
         | true=>rfl
         | false=>exact absurd (.inl hh) hq
        obtain⟨_,_,_,hk⟩:=eE hq1
        exact⟨dL _ _,fun _=>(bN ((bP hM).at (show i.toNat<12 by omega)) hk).2.2.2.2.1,fun q hq=>gi hq⟩
      ·exact⟨by simp,fun h=>absurd rfl h,fun q hq=>by cases hq⟩
     obtain⟨hl80,hl5,hlq⟩:=hl80
     let pg:Int→List UInt8:=fun q=>pgP m.P ((m.t.getD i.toNat default).an.getD q.toNat 0)
     have hpg:∀q,(pg q).length=16:=fun q=>nJ hP16 _
     have hxn:=hx.n
     have hH0:V02.Le (V2.bt b):=⟨hS2.sub.size,fun i o ho=>by
      have hne:i≠b:=fun e=>by rw[e,hn2]at ho;cases ho
      rw[aO,if_neg hne];exact hS2.sub.see i o ho,hS2.sub.out⟩
     have hcs:∀z:Sl,∀n:Int,bD [.slice s.a s.n s.c,.slice hs.a hs.n hs.c,.slice none 0 0,.int .i64 0,.int .i64 0,.int .i64 0,.int .i64 0,.int .i64 0,.slice none 0 0,.slice none 0 0] 8 [.slice z.a z.n z.c]= [.slice s.a s.n s.c,.slice hs.a hs.n hs.c,.slice none 0 0,.int .i64 0,.int .i64 0,.int .i64 0,.int .i64 0,.int .i64 0,.slice z.a z.n z.c,.slice none 0 0]:=fun _ _=>rfl
     refine⟨x,_,rfl, ?_⟩
     refine bh (k:= .int .i64) (fun(j:Int) V3=>∃(q:Nat) (w:Sl),j=q∧q≤l.length∧Buf V3 w 5 1 (u8s (cU pg (l.take q)))∧(V2.bt b).Le (V3.minus w)∧
      (V3.minus w).see b=some (.cells ⟨[.slice s.a s.n s.c,.slice hs.a hs.n hs.c,.slice none 0 0,.int .i64 0,.int .i64 0,.int .i64 0,.int .i64 0,.int .i64 0,.slice w.a w.n w.c,.slice none 0 0]⟩ 74 (0,0))) (fun(j:Int) _=>l.length-j.toNat)
      ⟨0,⟨none,0,0⟩,rfl,by omega,Buf.nil _ _ _,View.c6 _ _,hb2⟩ ?_
     rintro(j:Int) V3 ⟨q,w,rfl,hq,hB,hH,hb3⟩
     have hV03:V02.Le (V3.minus w):=hH0.trans hH
     refine aa (fun hlt=> ?_) (fun hge=> ?_)
     ·have hlt:q<l.length:=by have:=of_decide_eq_true hlt;omega
      have hqm:l.getD q default∈l:=by rw[aB hlt];exact List.getElem_mem _
      obtain⟨q1,q2,q3,q4,q5⟩:=hlq _ hqm
      have hs5:=hl5 (by rintro rfl;simp at hlt)
      obtain⟨ad,ha,hcc⟩:=(hx.mono (hV03.trans (View.aj _ _))).xR hlt
      have hm3:iE V02 (V3.minus w) p mb m s hs es cl:=⟨hH.see _ _ (by rw[aO,if_neg hp1];exact hm2.box),hH.see _ _ (by rw[aO,if_neg hp2];exact hm2.map),hm2.tre,hm2.bW,hm2.pages⟩
      have hsn:=hm2.tre.n
      obtain⟨ad2,sq,en,ha2,hc2,hN⟩:=(hm2.tre.mono hV03).bO (i:=i.toNat) (by omega)
      have hsqn:=hN.an.n
      obtain⟨ad3,ha3,hc3,_⟩:=hN.an.fD (i:=(l.getD q default).aS.toNat) (by omega)
      refine⟨by omega,by omega,ad,ha,_,_,_,hcc,fun _=>⟨trivial,V3.minus w,View.aj _ _,_,rfl,w,by rw[Addr.add_add];exact bx hb3 8 rfl,_,rfl,s,by rw[Addr.add_add];exact bx hm3.box 1 rfl,by omega,by omega,ad2,ha2,sq,av hc2 3 rfl,by omega,by omega,ad3,ha3,_,hc3,au (by omega) (by omega), ?_⟩⟩
      refine(af.iN (K:=fun r U' =>∃z:Sl,r= .slice z.a z.n z.c∧SlR U' z (pgP m.P ((m.t.getD i.toNat default).an.getD (l.getD q default).aS.toNat 0))) hB ((mH hm3 hV03 _).mono fun r U' ⟨z,h1,h2,h3⟩=>⟨⟨z,h1,h2⟩,h3⟩)).mono ?_
      rintro r V4 ⟨U,⟨z,rfl,hz⟩,hU1,hU2,hV34⟩
      have hzn:=hz.n;have hzc:=hz.c
      have hz16:(pgP m.P ((m.t.getD i.toNat default).an.getD (l.getD q default).aS.toNat 0)).length=16:=hpg _
      have hdl:=mI pg hpg (l.take q)
      rw[List.length_take]at hdl
      refine⟨z,rfl,(View.aj _ _).trans hV34,by omega,by omega,by omega, ?_⟩
      have hsub:=(hz.sub (i:=(l.getD q default).from_.toNat) (j:=((l.getD q default).from_+(l.getD q default).len).toNat) (by omega) (by omega)).mono hU2
      refine ew (α:=UInt8) (V0:=V4.minus w) (m:=((pgP m.P ((m.t.getD i.toNat default).an.getD (l.getD q default).aS.toNat 0)).take ((l.getD q default).from_+(l.getD q default).len).toNat).drop (l.getD q default).from_.toNat) rfl (hB.mono hV34) (cV _) hsub (View.Le.refl _) (by simp only [List.length_drop,List.length_take];omega) (by simp only [List.length_drop,List.length_take];omega) ?_
      intro w' V5 cs' g1 g2 g3
      have e5:=jM g2
      subst e5
      have hb5:=g3.see _ _ (hU2.see _ _ (hU1.see _ _ hb3))
      have hH5:=hH.trans (hU1.trans (hU2.trans g3))
      have hb5' :=(View.aj _ _).see _ _ hb5
      refine⟨_,rfl, ?_⟩
      rw[Addr.add_add]
      refine⟨bxc hb5' 8 1 (by simp),au (by omega) (by omega),⟨q+1,w',by omega,by omega, ?_, ?_, ?_⟩,by omega⟩
      ·rw[bxe hb5',oZ hlt]
       exact g1.ox hb5
      ·rw[bxe hb5',dP hb5]
       exact nL hH5
      ·rw[bxe hb5',dP hb5,View.ah];rfl
     ·have hge:q=l.length:=by have:=of_decide_eq_false hge;omega
      subst hge
      rw[List.take_length]at hB
      have hb3' :=(View.aj _ _).see _ _ hb3
      have hwn:=hB.n_eq (α:=UInt8) (W:=V02) (cV _)
      refine⟨_,rfl,w,by rw[Addr.add_add];exact bx hb3' 8 rfl,_,rfl, ?_⟩
      rw[Addr.add_add]
      refine⟨bxc hb3' 5 1 (by simp), ?_⟩
      rw[bxe hb3']
      have hB7:=hB.ox (o' := .cells ⟨bD [.slice s.a s.n s.c,.slice hs.a hs.n hs.c,.slice none 0 0,.int .i64 0,.int .i64 0,.int .i64 0,.int .i64 0,.int .i64 0,.slice w.a w.n w.c,.slice none 0 0] 5 [.int .i64 w.n]⟩ 74 (0,0)) hb3
      have hmp:=dP (o' := .cells ⟨bD [.slice s.a s.n s.c,.slice hs.a hs.n hs.c,.slice none 0 0,.int .i64 0,.int .i64 0,.int .i64 0,.int .i64 0,.int .i64 0,.slice w.a w.n w.c,.slice none 0 0] 5 [.int .i64 w.n]⟩ 74 (0,0)) hb3
      have hH7:(V2.bt b).Le ((V3.put b (.cells ⟨bD [.slice s.a s.n s.c,.slice hs.a hs.n hs.c,.slice none 0 0,.int .i64 0,.int .i64 0,.int .i64 0,.int .i64 0,.int .i64 0,.slice w.a w.n w.c,.slice none 0 0] 5 [.int .i64 w.n]⟩ 74 (0,0))).minus w):=by
       rw[hmp];exact nL hH
      have hb7:((V3.put b (.cells ⟨bD [.slice s.a s.n s.c,.slice hs.a hs.n hs.c,.slice none 0 0,.int .i64 0,.int .i64 0,.int .i64 0,.int .i64 0,.int .i64 0,.slice w.a w.n w.c,.slice none 0 0] 5 [.int .i64 w.n]⟩ 74 (0,0))).minus w).see b=some (.cells ⟨bD [.slice s.a s.n s.c,.slice hs.a hs.n hs.c,.slice none 0 0,.int .i64 0,.int .i64 0,.int .i64 0,.int .i64 0,.int .i64 0,.slice w.a w.n w.c,.slice none 0 0] 5 [.int .i64 w.n]⟩ 74 (0,0)):=by
       rw[hmp,View.ah]
      generalize V3.put b (.cells ⟨bD [.slice s.a s.n s.c,.slice hs.a hs.n hs.c,.slice none 0 0,.int .i64 0,.int .i64 0,.int .i64 0,.int .i64 0,.int .i64 0,.slice w.a w.n w.c,.slice none 0 0] 5 [.int .i64 w.n]⟩ 74 (0,0))=V7 at hB7 hH7 hb7
      have hS7:Mv (fun i=>i=b) V02 V2 V02 V7:=Mv.Lm hS2.sub hn2 (hH7.trans (View.aj _ _)) (fun _=>by rw[(View.aj _ _).see _ _ hb7];simp)
      obtain⟨V07,hS8,hle8,hw8,_⟩:=hB7.share (α:=UInt8) hS7 (cV _) (fun i hi=>by
       by_cases e:i=b
       ·subst e;rw[hb7];simp
       ·cases hs:V2.see i with
        | none=>exact absurd hs hi
        | some o=>rw[hH7.see i o (by rw[aO,if_neg e];exact hs)];simp) (hH0.trans hH7)
      refine⟨V07,hS2.trans hS8, ?_⟩
      rcases hcase with ⟨rfl,hr⟩ | ⟨hr,he,rfl⟩
      ·rw[hr]at hP
       dsimp only at hP
       rw[hP]
       refine⟨rfl,_,(View.aj _ _).see _ _ hb7,⟨s,hs,⟨none,0,0⟩,w,⟨none,0,0⟩, ?_,hm2.tre.mono hle8,hm2.bW.mono hle8,SlR.nil _ _ _,hw8,SlR.nil _ _ _⟩⟩
       rw[show w.n=(cU pg l).length from hwn];rfl
      ·rw[hr]at hP
       dsimp only at hP
       rw[hP]
       exact⟨rfl,he⟩
end
theorem DG {B:Nat→Prop} {V0 V V' :View} {r:Value} {o:Except Int Tre} :wM V0 V V' r o→∃(V0' :View) (x:Sl) (e:Int),r= .tuple ⟨[aZ x,.int .i64 e]⟩∧(match o with
 | .ok u=>e=0∧SlR V0' x u
 | .error c=>e=c∧c≠0)∧Mv B V0 V V0' V' :=by
 rintro⟨V0',x,e,h1,h2,h3⟩
 exact⟨V0',x,e,h1,h2,h3.weaken fun i h=>h.elim⟩
def Np (W:View) (r:Value) (d:Dee):Prop:=∃cs,r= .agg ⟨cs⟩∧uQ W cs d
section
variable {V0 V:View} {p mb:Nat} {m:bQ} {c:Cal} {y:Sl} {s hs:Sl} {es:Array MapEntry} {cl:Nat}
theorem o3 (hm:iE V0 V p mb m s hs es cl) (hle:V0.Le V) (hnp:V0.see p=none) (hnm:V0.see mb=none) (hO:OkP m) (hc:kQ V0 y c) (hg:Glo V0):
  af Tryz.prog 34 ⟨[.pointer (some ⟨p,0,none⟩),q8 c y]⟩ V fun r V' =>∃V0',Mv (fun _=>False) V0 V V0' V' ∧Np V0' r (aK m c):=by
 refine L1 ?_
 unfold GD
 have hM:=hO.may
 have hdat:inI .i64 m.data:=au (by have:=hO.d1;omega) (by have:=hO.d2;omega)
 refine fun _ _=>⟨trivial,V,View.Le.refl _,_,rfl,s,bx1 hm.box 1 rfl,_,rfl,hs,bx hm.box 2 rfl,fun b=>⟨View.Le.refl _,fun hfr=> ?_⟩⟩
 have hn0:V0.see b=none:=b5 hle hfr
 have hbp:b≠p:=by rintro rfl;rw[hm.box]at hfr;cases hfr
 have hbm:b≠mb:=by rintro rfl;rw[hm.map]at hfr;cases hfr
 have hs0:(V.put b (.cells ⟨[.slice none 0 0,.slice none 0 0,.slice none 0 0,.int .i64 0,.int .i64 0,.int .i64 0,.int .i64 0,.int .i64 0,.slice none 0 0,.slice none 0 0]⟩ 74 (0,0))).see b=some _:=View.ah _ _ _
 have hb1:(V.put b (.cells ⟨[.slice none 0 0,.slice none 0 0,.slice none 0 0,.int .i64 0,.int .i64 0,.int .i64 0,.int .i64 0,.int .i64 0,.slice none 0 0,.slice none 0 0]⟩ 74 (0,0))).sets ⟨b,0,none⟩ [.slice s.a s.n s.c,.slice hs.a hs.n hs.c,.slice none 0 0,.int .i64 0,.int .i64 0,.int .i64 0,.int .i64 0,.int .i64 0,.slice none 0 0,.slice none 0 0]=
   V.put b (.cells ⟨[.slice s.a s.n s.c,.slice hs.a hs.n hs.c,.slice none 0 0,.int .i64 0,.int .i64 0,.int .i64 0,.int .i64 0,.int .i64 0,.slice none 0 0,.slice none 0 0]⟩ 74 (0,0)):=by
  rw[bn hs0,View.uO];rfl
 refine⟨bJ hs0 (by decide), ?_⟩
 rw[hb1]
 have hS1:Mv (fun i=>i=b) V0 V V0 (V.put b (.cells ⟨[.slice s.a s.n s.c,.slice hs.a hs.n hs.c,.slice none 0 0,.int .i64 0,.int .i64 0,.int .i64 0,.int .i64 0,.int .i64 0,.slice none 0 0,.slice none 0 0]⟩ 74 (0,0))):=Mv.put _ hle hn0 (.inl rfl)
 have hB1:(V.put b (.cells ⟨[.slice s.a s.n s.c,.slice hs.a hs.n hs.c,.slice none 0 0,.int .i64 0,.int .i64 0,.int .i64 0,.int .i64 0,.int .i64 0,.slice none 0 0,.slice none 0 0]⟩ 74 (0,0))).see b=some (.cells ⟨[.slice s.a s.n s.c,.slice hs.a hs.n hs.c,.slice none 0 0,.int .i64 0,.int .i64 0,.int .i64 0,.int .i64 0,.int .i64 0,.slice none 0 0,.slice none 0 0]⟩ 74 (0,0)):=View.ah _ _ _
 generalize V.put b (.cells ⟨[.slice s.a s.n s.c,.slice hs.a hs.n hs.c,.slice none 0 0,.int .i64 0,.int .i64 0,.int .i64 0,.int .i64 0,.int .i64 0,.slice none 0 0,.slice none 0 0]⟩ 74 (0,0))=V1 at hS1 hB1
 have hp1:¬p=b:=fun e=>hbp e.symm
 have hp2:¬mb=b:=fun e=>hbm e.symm
 have hm1:=hm.stp hS1 hp1 hp2
 have hd1:lD V0 V1 b p mb ⟨m.t,m.h,[],Ans.e 0⟩:=⟨hn0,hbp,hbm,_,hB1,⟨s,hs,⟨none,0,0⟩,⟨none,0,0⟩,⟨none,0,0⟩,rfl,hm.tre,hm.bW,SlR.nil _ _ _,SlR.nil _ _ _,SlR.nil _ _ _⟩⟩
 have hD:∀P Q:Prop,∀ [Decidable P] [Decidable Q],(P↔Q)→decide P=decide Q:=fun P Q _ _ h=>decide_eq_decide.2 h
 refine ai (fun q V2=>q.1=decide (1≤c.kind∧c.kind≤6)∧V2=V1) (aa (fun h=>⟨hD _ _ (by have:=of_decide_eq_true h;omega),rfl⟩) (fun h1=> ?_)) ?_
 ·refine ai (fun q V2=>q.1=decide (1≤c.kind∧c.kind≤6)∧V2=V1) (aa (fun h=>⟨hD _ _ (by have:=of_decide_eq_true h;omega),rfl⟩) (fun h2=> ?_)) (by rintro⟨q,⟨⟩⟩ V2 h;exact h)
  refine ai (fun q V2=>q.1=decide (1≤c.kind∧c.kind≤6)∧V2=V1) (aa (fun h=>⟨hD _ _ (by have:=of_decide_eq_true h;omega),rfl⟩) (fun h3=> ?_)) (by rintro⟨q,⟨⟩⟩ V2 h;exact h)
  refine ai (fun q V2=>q.1=decide (1≤c.kind∧c.kind≤6)∧V2=V1) (aa (fun h=>⟨hD _ _ (by have:=of_decide_eq_true h;omega),rfl⟩) (fun h4=> ?_)) (by rintro⟨q,⟨⟩⟩ V2 h;exact h)
  refine ai (fun q V2=>q.1=decide (1≤c.kind∧c.kind≤6)∧V2=V1) (aa (fun h=>⟨hD _ _ (by have:=of_decide_eq_true h;omega),rfl⟩) (fun h5=>⟨hD _ _ ?_,rfl⟩)) (by rintro⟨q,⟨⟩⟩ V2 h;exact h)
  have a1:=of_decide_eq_false h1
  have a2:=of_decide_eq_false h2
  have a3:=of_decide_eq_false h3
  have a4:=of_decide_eq_false h4
  have a5:=of_decide_eq_false h5
  omega
 rintro⟨q,⟨⟩⟩ V2 ⟨hq,hV⟩
 have hq:q=decide (1≤c.kind∧c.kind≤6):=hq
 have hV:V2=V1:=hV
 subst hq hV
 dsimp only [unc]
 let J:Int→View→Prop:=fun e V3=>∃V03,Mv (fun i=>i=b) V0 V V03 V3∧mG b V03 V3 (.int .i64 e) (bH m c)
 refine ai (fun q V3=>J q.1 V3) (aa (fun hk=> ?_) (fun hk=> ?_)) ?_
 ·have hP:bH m c=match cr m c with
   | .error e=> .error e
   | .ok t=> .ok ⟨t,m.h,[],Ans.e 0⟩:=by unfold bH;rw[if_pos (of_decide_eq_true hk)];try (cases cr m c<;>rfl)
  refine(wN hm1 hS1.sub hc hg).mono ?_
  rintro r V3 hr
  obtain⟨V03,x,e,rfl,hx,hS3⟩:=DG (B:=fun i=>i=b) hr
  have hV23:V2.Le V3:=by
   obtain⟨_,_,_,_,_,h⟩:=hr
   exact h.le fun i h=>h.elim
  have hd3:=hd1.grow hS3 hV23
  refine⟨x,e,rfl, ?_⟩
  cases hn:cr m c with
  | error e' =>
    rw[hn]at hx hP
    obtain⟨rfl,he⟩:=hx
    obtain⟨k1,k2,k3⟩:=hd3.set (d' :=⟨[],m.h,[],Ans.e 0⟩) hS3.sub 0 [.slice none 0 0] (by simp) (by
     rintro cs ⟨s,hs,y',z,n,rfl,h1,h2,h3,h4,h5⟩
     exact⟨⟨none,0,0⟩,hs,y',z,n,rfl,SlR.nil _ _ _,h2,h3,h4,h5⟩)
    obtain⟨cs,e1,e2⟩:=hd3.ex
    have hl:cs.length=10:=by obtain⟨_,_,_,_,_,e,_⟩:=e2.ex;rw[e];rfl
    refine⟨bJ e1 (by omega),V03,(hS1.trans hS3).trans ?_, ?_⟩
    ·rw[bn e1];exact Mv.put _ hS3.sub hd3.no (.inl rfl)
    ·rw[hP];exact⟨rfl,he⟩
  | ok u=>
    rw[hn]at hx hP
    obtain⟨rfl,hx⟩:=hx
    obtain⟨k1,k2,k3⟩:=hd3.set (d' :=⟨u,m.h,[],Ans.e 0⟩) hS3.sub 0 [.slice x.a x.n x.c] (by simp) (by
     rintro cs ⟨s,hs,y',z,n,rfl,h1,h2,h3,h4,h5⟩
     exact⟨x,hs,y',z,n,rfl,hx,h2,h3,h4,h5⟩)
    rw[Addr.add_zero]at k1 k2 k3
    refine⟨k1,V03,(hS1.trans hS3).trans k3, ?_⟩
    rw[hP];exact⟨rfl,k2.ex⟩
 ·have hk1:=of_decide_eq_false hk
  refine ai (fun q V3=>q.1=decide (7≤c.kind∧c.kind≤9)∧V3=V2) (aa (fun h=>⟨hD _ _ (by have:=of_decide_eq_true h;omega),rfl⟩) (fun h1=> ?_)) ?_
  ·refine ai (fun q V3=>q.1=decide (7≤c.kind∧c.kind≤9)∧V3=V2) (aa (fun h=>⟨hD _ _ (by have:=of_decide_eq_true h;omega),rfl⟩) (fun h2=>⟨hD _ _ ?_,rfl⟩)) (by rintro⟨q,⟨⟩⟩ V3 h;exact h)
   have a1:=of_decide_eq_false h1
   have a2:=of_decide_eq_false h2
   omega
  rintro⟨q,⟨⟩⟩ V3 ⟨hq,hV⟩
  have hq:q=decide (7≤c.kind∧c.kind≤9):=hq
  have hV:V3=V2:=hV
  subst hq hV
  dsimp only [unc]
  refine ai (fun q V3=>J q.1 V3) (aa (fun hk=> ?_) (fun hk=> ?_)) (by rintro⟨q,⟨⟩⟩ V3 h;exact h)
  ·have hP:bH m c=gr m c:=by unfold bH;rw[if_neg hk1,if_pos (of_decide_eq_true hk)]
   refine(wP hm1 hS1.sub hd1 hc hg).mono ?_
   rintro r V4 ⟨V04,hS4,h4⟩
   rw[←hP]at h4
   have:∃e:Int,r= .int .i64 e:=by
    unfold mG at h4
    split at h4
    ·exact⟨_,h4.1⟩
    ·exact⟨_,h4.1⟩
   obtain⟨e,rfl⟩:=this
   exact⟨e,rfl,V04,hS1.trans hS4,h4⟩
  ·have hk2:=of_decide_eq_false hk
   refine ai (fun q V3=>J q.1 V3) (aa (fun hk=> ?_) (fun hk=> ?_)) (by rintro⟨q,⟨⟩⟩ V3 h;exact h)
   ·have hP:bH m c=gU m c:=by unfold bH;rw[if_neg hk1,if_neg hk2,if_pos (of_decide_eq_true hk)]
    refine(uT hm1 hS1.sub hM hd1).mono ?_
    rintro r V4 ⟨V04,hS4,h4⟩
    rw[←hP]at h4
    have:∃e:Int,r= .int .i64 e:=by
     unfold mG at h4
     split at h4
     ·exact⟨_,h4.1⟩
     ·exact⟨_,h4.1⟩
    obtain⟨e,rfl⟩:=this
    exact⟨e,rfl,V04,hS1.trans hS4,h4⟩
   ·have hk3:=of_decide_eq_false hk
    refine ai (fun q V4=>q.1=decide (11≤c.kind∧c.kind≤13)∧V4=V3) (aa (fun h=>⟨hD _ _ (by have:=of_decide_eq_true h;omega),rfl⟩) (fun h1=> ?_)) ?_
    ·refine ai (fun q V4=>q.1=decide (11≤c.kind∧c.kind≤13)∧V4=V3) (aa (fun h=>⟨hD _ _ (by have:=of_decide_eq_true h;omega),rfl⟩) (fun h2=>⟨hD _ _ ?_,rfl⟩)) (by rintro⟨q,⟨⟩⟩ V3 h;exact h)
     have a1:=of_decide_eq_false h1
     have a2:=of_decide_eq_false h2
     omega
    rintro⟨q,⟨⟩⟩ V4 ⟨hq,hV⟩
    have hq:q=decide (11≤c.kind∧c.kind≤13):=hq
    have hV:V4=V3:=hV
    subst hq hV
    dsimp only [unc]
    refine ai (fun q V3=>J q.1 V3) (aa (fun hk=> ?_) (fun hk=> ?_)) (by rintro⟨q,⟨⟩⟩ V3 h;exact h)
    ·have hP:bH m c=j5 m c:=by unfold bH;rw[if_neg hk1,if_neg hk2,if_neg hk3,if_pos (of_decide_eq_true hk)]
     refine(yy hm1 hS1.sub hM hdat hO.p16 hc hn0 hbp hbm hB1).mono ?_
     rintro r V5 ⟨V05,hS5,h5⟩
     rw[←hP]at h5
     have:∃e:Int,r= .int .i64 e:=by
      unfold mG at h5
      split at h5
      ·exact⟨_,h5.1⟩
      ·exact⟨_,h5.1⟩
     obtain⟨e,rfl⟩:=this
     exact⟨e,rfl,V05,hS1.trans hS5,h5⟩
    ·have hk4:=of_decide_eq_false hk
     refine ai (fun q V3=>J q.1 V3) (aa (fun hk=> ?_) (fun hk=> ?_)) (by rintro⟨q,⟨⟩⟩ V3 h;exact h)
     ·have hP:bH m c= .ok ⟨m.t,m.h,[],Ans.e 0⟩:=by unfold bH;rw[if_neg hk1,if_neg hk2,if_neg hk3,if_neg hk4,if_pos (of_decide_eq_true hk)]
      refine⟨V0,hS1, ?_⟩
      rw[hP];exact⟨rfl,hd1.ex⟩
     ·have hk5:=of_decide_eq_false hk
      refine ai (fun q V3=>J q.1 V3) (aa (fun hk=> ?_) (fun hk=> ?_)) (by rintro⟨q,⟨⟩⟩ V3 h;exact h)
      ·have hP:bH m c= .ok ⟨m.t,m.h,[],⟨0,0,kE m.t m.data,0,js m.t,[],[]⟩⟩:=by unfold bH;rw[if_neg hk1,if_neg hk2,if_neg hk3,if_neg hk4,if_neg hk5,if_pos (of_decide_eq_true hk)]
       refine⟨trivial,V4,View.Le.refl _,_,rfl,s,bx1 hm1.box 1 rfl,_,rfl,_,bx hm1.box 0 rfl,_,rfl,s,bx1 hm1.box 1 rfl, ?_⟩
       refine(uu (hm1.tre.mono hS1.sub) (by have:=hO.d2;omega)).mono ?_
       rintro r V5 ⟨rfl,hV5⟩
       refine⟨_,rfl,hV5,(rT (hm1.tre.mono (hS1.sub.trans hV5))).mono ?_⟩
       rintro r V6 ⟨rfl,rfl⟩
       have hS5:Mv (fun i=>i=b) V0 V4 V0 V6:=Mv.grow hS1.sub hV5
       have hd5:=hd1.grow hS5 hV5
       obtain⟨k1,k2,k3⟩:=hd5.set (d' :=⟨m.t,m.h,[],⟨0,0,kE m.t m.data,0,js m.t,[],[]⟩⟩) hS5.sub 3 [.int .i64 0,.int .i64 0,.int .i64 (kE m.t m.data),.int .i64 0,.int .i64 (js m.t:Nat),.slice none 0 0,.slice none 0 0] (by simp) (by
        rintro cs ⟨s,hs,y,x,n,rfl,h1,h2,h3,h4,h5⟩
        exact⟨s,hs,y,⟨none,0,0⟩,⟨none,0,0⟩,rfl,h1,h2,h3,SlR.nil _ _ _,SlR.nil _ _ _⟩)
       rw[aW]at k1 k2 k3
       refine⟨_,rfl,k1,V0,(hS1.trans hS5).trans k3, ?_⟩
       rw[hP];exact⟨rfl,k2.ex⟩
      ·have hP:bH m c= .error 1:=by unfold bH;rw[if_neg hk1,if_neg hk2,if_neg hk3,if_neg hk4,if_neg hk5,if_neg (of_decide_eq_false hk)]
       refine⟨V0,hS1, ?_⟩
       rw[hP];exact⟨rfl,by decide⟩
 ·rintro⟨e,⟨⟩⟩ V3 ⟨V03,hS3,hO3⟩
  have hO3:mG b V03 V3 (.int .i64 e) (bH m c):=hO3
  dsimp only [unc]
  have hSf:Mv (fun _=>False) V0 V V03 V3:=hS3.weaken fun i hi=> .inr (by rw[hi];exact hfr)
  have hm3:=hm.stp hSf id id
  have hPl:aK m c=match bH m c with
   | .error e=>⟨m.t,m.h,[],Ans.e e⟩
   | .ok d=>d:=rfl
  cases hdp:bH m c with
  | error e' =>
    rw[hdp]at hO3 hPl
    obtain⟨he,hne⟩:=hO3
    cases he
    refine aa (fun _=>⟨trivial,V3,View.Le.refl _,_,rfl,s,bx1 hm3.box 1 rfl,_,rfl,hs,bx hm3.box 2 rfl,V03,hSf, ?_⟩) (fun h=>absurd (of_decide_eq_true (aD h)) hne)
    rw[hPl]
    exact⟨_,rfl,⟨s,hs,⟨none,0,0⟩,⟨none,0,0⟩,⟨none,0,0⟩,rfl,hm3.tre,hm3.bW,SlR.nil _ _ _,SlR.nil _ _ _,SlR.nil _ _ _⟩⟩
  | ok d=>
    rw[hdp]at hO3 hPl
    obtain⟨he,cs,h1,h2⟩:=hO3
    cases he
    obtain⟨s',hs',y',x',n',rfl,g⟩:=h2.ex
    refine aa (fun h=>absurd h (by decide)) (fun _=>⟨s',hs',y',_,_,_,_,_,x',n',cQ h1 (fun j v hj=>by simpa using hj),V03,hSf, ?_⟩)
    rw[hPl]
    exact⟨_,rfl,h2⟩
end
theorem DH {t:Tre} {s:Int} :s∈bC t↔∃k,k<t.length∧s∈(t.getD k default).an:=by
 unfold bC
 rw[List.mem_flatMap]
 constructor
 ·rintro⟨n,hn,hs⟩
  obtain⟨k,hk,rfl⟩:=List.getElem_of_mem hn
  exact⟨k,hk,by rw[aB hk];exact hs⟩
 ·rintro⟨k,hk,hs⟩
  rw[aB hk]at hs
  exact⟨_,List.getElem_mem hk,hs⟩
def dV (u t:Tre):Prop:=∀s∈bC u,s=0∨s∈bC t
theorem dV.refl (t:Tre):dV t t:=fun _ h=> .inr h
theorem dV.trans {a b c:Tre} (h:dV a b) (k:dV b c):dV a c:=fun s hs=>(h s hs).elim .inl (k s)
theorem dV.top {u t:Tre} {q:Int} (h:dV u t) (ht:rY t q) (h0:0≤q):rY u q:=fun s hs=>(h s hs).elim (fun e=>by omega) (ht s)
theorem dV.set {t:Tre} {k:Nat} {n:Nod} (h:∀s∈n.an,s=0∨s∈bC t):dV (t.set k n) t:=by
 intro s hs
 unfold bC at hs
 rw[List.mem_flatMap]at hs
 obtain⟨m,hm,hs⟩:=hs
 rcases List.mem_or_eq_of_mem_set hm with h1 | h1
 ·exact .inr (List.mem_flatMap.2 ⟨m,h1,hs⟩)
 ·subst h1;exact h s hs
theorem eK {t:Tre} {k:Nat} {s:Int} (h:s∈(t.getD k default).an):s∈bC t:=by
 by_cases hk:k<t.length
 ·exact DH.2 ⟨k,hk,h⟩
 ·rw[List.getD_eq_getElem?_getD,List.getElem?_eq_none (by omega)]at h
  cases h
theorem iQ (t:Tre) (d:Nat) (l:List Ent):dV (aJ t d l) t:=dV.set fun _ h=> .inr (eK h)
theorem sub_zero (t:Tre) (k:Nat):dV (t.set k Nod.zero) t:=dV.set fun _ h=>by cases h
theorem Aw (t:Tre) (k:Nat) (x:Int):dV (t.set k (aQ x)) t:=dV.set fun s h=>by
 unfold aQ at h
 split at h
 ·simp at h;exact .inl h
 ·split at h
  ·cases h
  ·cases h
theorem wR (t:Tre) (k:Nat) (h:List Bool):dV (cj t k h) t:=by
 unfold cj
 split
 ·exact dV.set fun _ h=> .inr (eK h)
 ·exact sub_zero t k
theorem tB {t u:Tre} {p:ByteArray} {k:Int} (h:cZ t p k= .ok u):dV u t:=by
 unfold cZ at h
 split at h
 ·cases h
 ·split at h
  ·cases h
  ·split at h
   ·cases h
   ·split at h
    ·cases h
    ·cases h
     exact(Aw _ _ _).trans (iQ _ _ _)
theorem yz {t u:Tre} {p:ByteArray} {held:List Bool} (h:dM t p held= .ok u):dV u t:=by
 unfold dM at h
 split at h
 ·cases h
 ·split at h
  ·cases h
  ·split at h
   ·cases h
   ·cases h
    exact(wR _ _ _).trans (iQ _ _ _)
theorem Ax {t u:Tre} {p:ByteArray} (h:ff t p= .ok u):dV u t:=by
 unfold ff at h
 split at h
 ·cases h
 ·split at h
  ·cases h
  ·split at h
   ·cases h
   ·split at h
    ·cases h
    ·cases h
     exact(sub_zero _ _).trans (iQ _ _ _)
theorem DJ {t u:Tre} {p q:ByteArray} (h:iC t p q= .ok u):dV u t:=by
 unfold iC at h
 split at h
 ·cases h
 ·split at h
  ·cases h
  ·split at h
   ·cases h
   ·split at h
    ·cases h
    ·split at h
     ·cases h
     ·cases h
      intro s hs
      unfold bC at hs
      rw[List.mem_flatMap]at hs
      obtain⟨m,hm,hs⟩:=hs
      rcases List.mem_or_eq_of_mem_set hm with h1 | h1
      ·exact iQ _ _ _ s (List.mem_flatMap.2 ⟨m,h1,hs⟩)
      ·subst h1;exact .inr (eK hs)
theorem DK (t:Tre) (d:Nat) (s:ByteArray) (i f:Nat) (r:ByteArray) (k:Int) (held:List Bool):dV (bM t d s i f r k held) t:=by
 unfold bM
 split
 ·exact(wR _ _ _).trans ((iQ _ _ _).trans (iQ _ _ _))
 ·exact iQ _ _ _
theorem yA {t u:Tre} {p q:ByteArray} {held:List Bool} (h:cz t p q held= .ok u):dV u t:=by
 unfold cz at h
 split at h
 ·cases h
 ·split at h
  ·cases h
  ·split at h
   ·cases h
   ·split at h
    ·cases h;exact dV.refl t
    ·split at h
     ·cases h
     ·split at h
      ·cases h
      ·split at h
       ·cases h
       ·cases h
        exact(iQ _ _ _).trans (DK _ _ _ _ _ _ _ _)
theorem wS {t u:Tre} {i:Int} (h:c9 t i= .ok u):dV u t:=by
 unfold c9 at h
 split at h
 ·split at h
  ·cases h;exact sub_zero _ _
  ·cases h
 ·cases h
theorem Ay {m:bQ} {c:Cal} {u:Tre} (h:cr m c= .ok u):dV u m.t:=by
 unfold cr at h
 repeat' split at h
 ·exact tB h
 ·exact tB h
 ·exact yz h
 ·exact Ax h
 ·exact yA h
 ·exact DJ h
theorem Az {m:bQ} {c:Cal} {u:Tre} (h:cr m c= .ok u):aY u=true:=by
 unfold cr at h
 repeat' split at h
 ·exact tn (.inl rfl) h
 ·exact tn (.inr rfl) h
 ·exact yo h
 ·exact Aq h
 ·exact yp h
 ·exact Ar h
theorem tC {t u:Tre} {i:Int} (h:c9 t i= .ok u):aY u=true:=by
 unfold c9 at h
 split at h
 ·rename_i hM
  split at h
  ·rename_i hc
   cases h
   exact Dz hM (by omega) hc.2.2.1 hc.2.2.2
  ·cases h
 ·cases h
theorem zD:∀ {f a n:Nat} {p:Pce},p∈jQ f a n→∃a' :Nat,p.aS=(a' /16:Nat)∧a' <a+n∧p.len≤16
 | 0,_,_,_,h=>by cases h
 | f+1,a,n,p,h=>by
   unfold jQ at h
   split at h
   ·cases h
   ·rcases List.mem_cons.1 h with h | h
    ·subst h
     exact⟨a,rfl,by omega,by dsimp only;omega⟩
    ·obtain⟨a',h1,h2,h3⟩:=zD h
     exact⟨a',h1,by omega,h3⟩
theorem mJ {n:Nod} {i:Int} {x:Tod} :∀ {ps:List Pce} {b:List UInt8},x∈dN n i ps b→x.node=i∧x.keep=16∧∃p∈ps,x.aS=p.aS∧x.old=n.an.getD p.aS.toNat 0∧x.from_=p.from_∧(x.data.length:Int)≤p.len.toNat
 | [],_,h=>by cases h
 | p::ps,b,h=>by
   rcases List.mem_cons.1 h with h | h
   ·subst h
    exact⟨rfl,rfl,p,by simp,rfl,rfl,rfl,by simp;omega⟩
   ·obtain⟨h1,h2,q,h3,h4⟩:=mJ h
    exact⟨h1,h2,q,by simp [h3],h4⟩
theorem rm (n:Nod) (i:Int):∀(ps:List Pce) (b:List UInt8),(dN n i ps b).length=ps.length
 | [],_=>rfl
 | p::ps,b=>by simp [dN,rm n i ps]
structure fh (t u:Tre) (l:List Tod):Prop where
 may:aY u=true
 sub:dV u t
 len:l.length≤80
 k12:cN l<12
 todo:∀x∈l,x.node=cN l∧0≤x.aS∧x.aS<5∧x.aS*16<(u.getD (cN l) default).size∧ak u (cN l)=1∧x.data.length≤100∧x.old=(t.getD (cN l) default).an.getD x.aS.toNat 0∧ak t (cN l)=1
theorem fh.nil {t u:Tre} (h1:aY u=true) (h2:dV u t):fh t u []:=⟨h1,h2,by simp,by simp [cN],fun x h=>by cases h⟩
theorem F4 {l:List Tod} {i:Int} (h:∀x∈l,x.node=i) (h0:0≤i) (hl:l≠ []):(cN l:Int)=i:=by
 cases l with
 | nil=>exact absurd rfl hl
 | cons x l=>
   have:=h x (by simp)
   show(x.node.toNat:Int)=i
   omega
theorem wT {t:Tre} (hM:aY t=true) {k:Nat} (hk:k<12) (hkk:ak t k=1) {z:Int} (h1:(t.getD k default).size≤z) (h2:z≤80):aY (t.set k { t.getD k default with size:=z })=true:=by
 have hF:=bP hM
 obtain⟨f1,f2,f3,f4,f5,f6,f7⟩:=bN (hF.at hk) hkk
 refine jV hM hk hkk hkk rfl (kP hkk ⟨f1,f2,by dsimp only;omega,h2,f5,f6,fun i hi=> ?_⟩) (dB (eB hM) (by rw[hF.len];exact hk) (List.Sublist.refl _))
 obtain⟨a,b,c⟩:=f7 i hi
 exact⟨a,b,fun h=>c (by dsimp only at h;omega)⟩
theorem rq {t u:Tre} {d i a:Int} {b:List UInt8} {l:List Tod} (hM:aY t=true) (h:cE t d i a b= .ok (u,l)):fh t u l:=by
 unfold cE at h
 split at h
 ·cases h
 rename_i hc
 have hq:bL t i=true:=by
  cases hh:bL t i with
  | true=>rfl
  | false=>exact absurd (.inl hh) hc
 have ha:0≤a:=by
  apply Classical.byContradiction
  intro h0;exact hc (.inr (by omega))
 obtain⟨_,hi0,hi1,hik⟩:=eE hq
 have h12:=(bP hM).len
 split at h
 ·cases h;exact fh.nil hM (dV.refl t)
 split at h
 ·cases h
 rename_i hf
 have hf:dZ a b.length=true:=by
  cases hh:dZ a b.length with
  | true=>rfl
  | false=>exact absurd hh hf
 split at h
 ·cases h
 cases h
 have hf0:=hf
 unfold dZ at hf0
 have hf0:=of_decide_eq_true hf0
 obtain⟨f1,f2,f3,f4,f5,f6,f7⟩:=bN ((bP hM).at (show i.toNat<12 by omega)) hik
 by_cases hl:dN (t.getD i.toNat default) i (aC a b.length) b= []
 ·rw[hl]
  exact fh.nil (wT hM (by omega) hik (by omega) (by omega)) (dV.set fun _ h=> .inr (eK h))
 have hk:=F4 (fun x hx=>(mJ hx).1) hi0 hl
 have hk:cN (dN (t.getD i.toNat default) i (aC a b.length) b)=i.toNat:=by omega
 refine⟨wT hM (by omega) hik (by omega) (by omega),dV.set fun _ h=> .inr (eK h),by rw[rm];exact dL _ _,by omega,fun x hx=> ?_⟩
 rw[hk]
 obtain⟨h1,h2,p,hp,h3,h4,h5,h6⟩:=mJ hx
 obtain⟨q1,q2,q3,q4,q5⟩:=gi hp
 rw[dH hf]at hp
 obtain⟨a',p1,p2,p3⟩:=zD hp
 rw[cq (by omega)]
 refine⟨by omega,by omega,by omega, ?_, ?_,by omega,by rw[h4,h3],hik⟩
 ·show x.aS*16<max (t.getD i.toNat default).size (a+b.length)
  omega
 ·unfold ak;rw[cq (by omega)];exact hik
theorem oy:∀(l:List Int) (i:Nat),List.Sublist ((l.set i 0).filter fun s=>decide (s≠0)) (l.filter fun s=>decide (s≠0))
 | [],_=>by simp
 | x::l,0=>by
   rw[List.set_cons_zero,List.filter_cons_of_neg (by simp),List.filter_cons]
   split
   ·exact List.sublist_cons_self _ _
   ·exact List.Sublist.refl _
 | x::l,i+1=>by
   rw[List.set_cons_succ,List.filter_cons,List.filter_cons]
   split
   ·exact(oy l i).cons_cons _
   ·exact oy l i
theorem ru {l:List Int} (h5:l.length=5) (z:Int):∀k,List.Sublist ((gI l z k).filter fun s=>decide (s≠0)) (l.filter fun s=>decide (s≠0))
 | 0=>by rw[tu z h5];exact List.Sublist.refl _
 | k+1=>by
   by_cases h:z≤(k:Int)*16
   ·rw[←qW h];exact(oy _ _).trans (ru h5 z k)
   ·rw[←tv h];exact ru h5 z k
theorem rz {t u:Tre} {i z:Int} {l:List Tod} (hM:aY t=true) (h:c5 t i z= .ok (u,l)):fh t u l:=by
 unfold c5 at h
 split at h
 ·cases h
 rename_i hc
 have hq:bL t i=true:=by
  cases hh:bL t i with
  | true=>rfl
  | false=>exact absurd (.inl hh) hc
 have hz0:0≤z:=by
  apply Classical.byContradiction
  intro h0;exact hc (.inr (by omega))
 obtain⟨_,hi0,hi1,hik⟩:=eE hq
 have h12:=(bP hM).len
 split at h
 ·cases h
 cases h
 obtain⟨f1,f2,f3,f4,f5,f6,f7⟩:=bN ((bP hM).at (show i.toNat<12 by omega)) hik
 have hmay:aY (t.set i.toNat { t.getD i.toNat default with size:=z,an:=gI (t.getD i.toNat default).an z 5 })=true:=by
  refine jV hM (by omega) hik hik rfl (kP hik ⟨f1,f2,hz0,by dsimp only;omega,eU _ _ _,f6,fun j hj=> ?_⟩) (dB (eB hM) (by omega) (ru f5 z 5))
  dsimp only
  rw[nF hj]
  obtain⟨a,b,c⟩:=f7 j hj
  split
  ·exact⟨by omega,by omega,fun _=>rfl⟩
  ·exact⟨a,b,fun h=>by omega⟩
 have hsub:dV (t.set i.toNat { t.getD i.toNat default with size:=z,an:=gI (t.getD i.toNat default).an z 5 }) t:=by
  refine dV.set fun s hs=> ?_
  dsimp only at hs
  unfold gI at hs
  obtain⟨p,hp,rfl⟩:=List.mem_map.1 hs
  have hp:=List.mem_range.1 hp
  split
  ·exact .inl rfl
  ·rw[bY (by omega)];exact .inr (eK (List.getElem_mem _))
 by_cases hl:z<(t.getD i.toNat default).size∧0<z%16∧(t.getD i.toNat default).an.getD (z/16).toNat 0≠0
 ·have hE:gq (t.getD i.toNat default) i z= [⟨i,z/16,(t.getD i.toNat default).an.getD (z/16).toNat 0,z%16,0,[]⟩]:=by unfold gq;rw[if_pos hl]
  rw[hE]
  refine⟨hmay,hsub,by simp,by show i.toNat<12;omega,fun x hx=> ?_⟩
  have hx:=List.mem_singleton.1 hx
  subst hx
  show i=(i.toNat:Int)∧0≤z/16∧z/16<5∧z/16*16<_∧_∧(0:Nat)≤100∧_=((t.getD i.toNat default).an.getD (z/16).toNat 0)∧ak t i.toNat=1
  rw[show cN [(⟨i,z/16,(t.getD i.toNat default).an.getD (z/16).toNat 0,z%16,0,[]⟩:Tod)]=i.toNat from rfl]
  refine⟨by omega,by omega,by omega, ?_, ?_,by omega,rfl,hik⟩
  ·rw[cq (by omega)];dsimp only;omega
  ·unfold ak;rw[cq (by omega)];exact hik
 ·have hE:gq (t.getD i.toNat default) i z= []:=by unfold gq;rw[if_neg hl]
  rw[hE];exact fh.nil hmay hsub
theorem DL {h l:List Int} {i k:Int} (ho:eV h i= .ok (l,k)):cY l=false∧0≤k∧k<4:=by
 unfold eV at ho
 split at ho
 ·cases ho
 ·rename_i hc
  split at ho
  ·cases ho
  ·rename_i hk
   cases ho
   have hoff:cY h=false:=by
    cases hh:cY h with
    | false=>rfl
    | true=>exact absurd (.inl hh) hc
   have hr:=gh (fun n=>decide (-1=n)) h
   have hl:=cT hoff
   refine⟨?_,by omega,by omega⟩
   unfold cY
   rw[Bool.or_eq_false_iff]
   constructor
   ·rw[List.length_set,hl];rfl
   ·rw[List.any_eq_false]
    intro x hx
    rcases List.mem_or_eq_of_mem_set hx with h | h
    ·have:=jC hoff h
     simp;omega
    ·have:0≤i∧i<12:=by
      constructor
      ·apply Classical.byContradiction;intro h;exact hc (.inr (.inl (by omega)))
      ·apply Classical.byContradiction;intro h;exact hc (.inr (.inr (by omega)))
     simp;omega
theorem nM {m:bQ} {c:Cal} (hO:OkP m):fh m.t (aK m c).t (aK m c).todo∧cY (aK m c).h=false:=by
 have hsame:fh m.t m.t []:=fh.nil hO.may (dV.refl _)
 unfold aK
 cases hd:bH m c with
 | error e=>exact⟨hsame,hO.bW⟩
 | ok d=>
   show fh m.t d.t d.todo∧cY d.h=false
   unfold bH at hd
   split at hd
   ·cases hn:cr m c with
    | error e=>rw[hn]at hd;cases hd
    | ok t=>
      rw[hn]at hd;cases hd
      exact⟨fh.nil (Az hn) (Ay hn),hO.bW⟩
   split at hd
   ·unfold gr at hd
    split at hd
    ·cases hd
    split at hd
    ·cases hd;exact⟨hsame,hO.bW⟩
    split at hd
    ·cases hd
    split at hd
    ·cases hd;exact⟨hsame,hO.bW⟩
    split at hd
    ·cases hd
    split at hd
    ·cases hd
    ·rename_i ho
     cases hd;exact⟨hsame,(DL ho).1⟩
   split at hd
   ·unfold gU at hd
    split at hd
    ·cases hd
    ·rename_i h i hc
     obtain⟨_,_,_,ho,_⟩:=iP hc
     split at hd
     ·cases hdr:c9 m.t i with
      | error e=>rw[hdr]at hd;cases hd
      | ok t=>rw[hdr]at hd;cases hd;exact⟨fh.nil (tC hdr) (wS hdr),ho⟩
     ·cases hd;exact⟨hsame,ho⟩
   split at hd
   ·unfold j5 at hd
    split at hd
    ·cases hd
    ·rename_i i hi
     split at hd
     ·cases hw:cE m.t m.data i c.at_ c.data with
      | error e=>rw[hw]at hd;cases hd
      | ok o=>obtain⟨u,l⟩:=o;rw[hw]at hd;cases hd;exact⟨rq hO.may hw,hO.bW⟩
     split at hd
     ·cases hw:c5 m.t i c.at_ with
      | error e=>rw[hw]at hd;cases hd
      | ok o=>obtain⟨u,l⟩:=o;rw[hw]at hd;cases hd;exact⟨rz hO.may hw,hO.bW⟩
     split at hd
     ·cases hd
     ·cases hd;exact⟨hsame,hO.bW⟩
   split at hd
   ·cases hd;exact⟨hsame,hO.bW⟩
   split at hd
   ·cases hd;exact⟨hsame,hO.bW⟩
   ·cases hd
theorem wU:∀ {P:Int→Option (List UInt8)} {q:Int} {l:List Tod},(∀k b,P k=some b→b.length=16)→∀k b,cM P q l k=some b→b.length=16
 | P,q,[],h=>h
 | P,q,x::l,h=>wU (l:=l) fun k b hb=>by
   split at hb
   ·cases hb;exact jv _ _
   ·exact h k b hb
theorem yB {m:bQ} {c:Cal} (hO:OkP m) (hs:m.seq+80≤1099511627776):aY (doP m c).t=true∧rY (doP m c).t (m.seq+(aK m c).todo.length)∧
  ((aK m c).todo≠ []→jX (aK m c).t (aK m c).todo (upS m.seq (aK m c).todo.length) (cN (aK m c).todo)):=by
 obtain⟨hT,_⟩:=nM (c:=c) hO
 have hlen:=hT.len
 have htop:=hT.sub.top hO.top hO.s0
 have hs0:=hO.s0
 by_cases hl:(aK m c).todo= []
 ·unfold doP
  rw[hl]
  exact⟨hT.may,fun s h=>by have:=htop s h;simp;omega,fun h=>absurd rfl h⟩
 ·obtain⟨x,hx⟩:=List.exists_mem_of_ne_nil _ hl
  have hk:=(hT.todo x hx).2.2.2.2.1
  obtain⟨a,b⟩:=qV (cN (aK m c).todo) (aK m c).t (aK m c).todo m.seq hT.may hT.k12 hk htop hs0 (by omega) (fun y hy=>by
   obtain⟨_,h1,h2,h3,_⟩:=hT.todo y hy
   exact⟨h1,h2,h3⟩)
  refine⟨a,b,fun _=>⟨hT.may,hT.k12,(jW _ _).symm,fun y hy=> ?_,fun q hq=> ?_,a⟩⟩
  ·obtain⟨h0,h1,h2,h3,h4,_⟩:=hT.todo y hy
   exact⟨h0,h1,h2,h4⟩
  ·have:=zz hq
   omega
theorem OkP.step {m:bQ} {c:Cal} (hO:OkP m) (hs:m.seq+80≤1099511627776):OkP (doP m c)∧(doP m c).seq≤m.seq+80∧m.seq≤(doP m c).seq:=by
 obtain⟨hT,ho⟩:=nM (c:=c) hO
 obtain⟨h1,h2,_⟩:=yB (c:=c) hO hs
 have hlen:=hT.len
 have hs0:=hO.s0
 refine⟨⟨h1,ho,hO.d1,hO.d2, ?_,h2,wU hO.p16⟩, ?_, ?_⟩
 ·show 0≤m.seq+_;omega
 ·show m.seq+_≤_;omega
 ·show m.seq≤m.seq+_;omega
theorem jY (V:View) (x:Sl):(V.minus x).size=V.size:=by unfold View.minus;split<;>rfl
theorem iE.put {V0 V:View} {p mb:Nat} {m:bQ} {s hs:Sl} {es:Array MapEntry} {cl:Nat} (h:iE V0 V p mb m s hs es cl) (hne:p≠mb) (q:Int):
  ay V ((⟨p,0,none⟩:Addr).add 4) 1∧V.sets ((⟨p,0,none⟩:Addr).add 4) [.int .i64 q]=V.put p (.cells ⟨[.int .i64 m.data,.slice s.a s.n s.c,.slice hs.a hs.n hs.c,.map (some mb),.int .i64 q]⟩ 71 (0,0))∧
  iE V0 (V.put p (.cells ⟨[.int .i64 m.data,.slice s.a s.n s.c,.slice hs.a hs.n hs.c,.map (some mb),.int .i64 q]⟩ 71 (0,0))) p mb { m with seq:=q } s hs es cl:=
 ⟨bxc h.box 4 1 (by simp),bxe h.box 4 _,View.ah _ _ _,by rw[View.aF _ _ (fun e=>hne e.symm)];exact h.map,h.tre,h.bW,h.pages⟩
theorem mF.put {W W' :View} {es es' :List MapEntry} {P:Int→Option (List UInt8)} (h:mF W es P) (hW:W.Le W') {k:Int} {z:Sl} {b:List UInt8} (hz:SlR W' z b) (hi:rQ es') (hv:∀k',vlk k' es' =if k' =k then some (.slice z.a z.n z.c)else vlk k' es):
  mF W' es' (fun q=>if q=k then some b else P q):=by
 refine⟨hi,fun q=> ?_⟩
 by_cases e:q=k
 ·simp only [if_pos e]
  exact⟨z,by rw[hv,if_pos e],hz⟩
 ·simp only [if_neg e]
  have:=(h.mono hW).2 q
  rw[hv,if_neg e];exact this
section
variable {V0 V:View} {p mb:Nat} {m:bQ} {c:Cal} {y:Sl}
theorem jE (hm:ov V0 V p mb m) (hO:OkP m) (hq:m.seq+80≤1099511627776) (hc:kQ V0 y c) (hg:Glo V0):
  af Tryz.prog 14 ⟨[.pointer (some ⟨p,0,none⟩),q8 c y]⟩ V fun r V' =>∃V0',Mv (fun i=>i=p∨i=mb) V0 V V0' V' ∧ov V0' V' p mb (doP m c)∧F2 V0' r (aK m c).a:=by
 refine LI ?_
 unfold Gj
 obtain⟨s,hs,es,cl,hmc⟩:=hm.ex
 have hne:=hm.ne
 refine fun _ _=>aa (fun h=>by cases h) (fun _=>(o3 hmc hm.le hm.np hm.nm hO hc hg).mono ?_)
 rintro r V1 ⟨V01,hS1,cs1,rfl,hD⟩
 obtain⟨s1,h1,y1,x1,n1,rfl,hs1,hh1,hy1,hx1,hn1⟩:=hD.ex
 have hm1:=hmc.stp hS1 id id
 have hnp1:V01.see p=none:=hS1.apart _ hm.np (by rw[hmc.box];simp)
 have hnm1:V01.see mb=none:=hS1.apart _ hm.nm (by rw[hmc.map];simp)
 obtain⟨hT,hoff⟩:=nM (c:=c) hO
 obtain⟨hmay,htop,hpre⟩:=yB (c:=c) hO hq
 have hlen:=hT.len
 have hy1n:=hy1.n
 have hs0:=hO.s0
 have hS1' :Mv (fun i=>i=p∨i=mb) V0 V V01 V1:=hS1.weaken fun i h=>h.elim
 have hdef:doP m c=⟨m.data,ck (cN (aK m c).todo) (aK m c).t (aK m c).todo (upS m.seq (aK m c).todo.length),(aK m c).h,cM m.P m.seq (aK m c).todo,m.seq+(aK m c).todo.length⟩:=rfl
 generalize aK m c=d at*
 refine⟨s1,h1,y1,_,_,_,_,_,x1,n1,rfl,fun _=> ?_⟩
 refine di (k:= .sl) (l:= .int .i64) (fun(w:Sl) (jj:Int) V3=>∃(j:Nat) (V03:View) (cs:List Value) (es:Array MapEntry) (cl:Nat),jj=j∧j≤d.todo.length∧Buf V3 w 3 (Rep.sz Int) cs∧aR (V3.minus w) cs (upS m.seq j)∧Mv (fun i=>i=p∨i=mb) V01 V1 V03 (V3.minus w)∧
   iE V03 (V3.minus w) p mb ⟨m.data,m.t,m.h,cM m.P m.seq (d.todo.take j),m.seq+j⟩ s hs es cl) (fun _ (jj:Int) _=>d.todo.length-jj.toNat)
  ⟨0,V01,[],es,cl,rfl,by omega,Buf.nil _ _ _,rfl,Mv.refl hS1.sub,by
    have e:m=⟨m.data,m.t,m.h,cM m.P m.seq (d.todo.take 0),m.seq+((0:Nat):Int)⟩:=by
     show m=⟨m.data,m.t,m.h,m.P,m.seq+0⟩
     rw[Int.add_zero]
    rw[←e];exact hm1⟩ ?_
 rintro(w:Sl) (jj:Int) V3 ⟨j,V03,cs,es,cl,rfl,hj,hB,hR,hS3,hm3⟩
 have hnp3:V03.see p=none:=hS3.apart _ hnp1 (by rw[hm1.box];simp)
 have hnm3:V03.see mb=none:=hS3.apart _ hnm1 (by rw[hm1.map];simp)
 have hwn:=hB.n_eq (α:=Int) hR
 rw[jW]at hwn
 have hbox3:V3.see p=some (.cells ⟨[.int .i64 m.data,.slice s.a s.n s.c,.slice hs.a hs.n hs.c,.map (some mb),.int .i64 (m.seq+j)]⟩ 71 (0,0)):=(View.aj _ _).see _ _ hm3.box
 have hmap3:=(View.aj _ _).see _ _ hm3.map
 refine aa (fun hlt=> ?_) (fun hge=> ?_)
 ·have hlt:j<d.todo.length:=by have:=of_decide_eq_true hlt;omega
  have hxm:d.todo.getD j default∈d.todo:=by rw[aB hlt];exact List.getElem_mem _
  obtain⟨_,_,_,_,_,hdl,_,_⟩:=hT.todo _ hxm
  have hyV:SlR (V3.minus w) y1 d.todo:=hy1.mono (hS3.base.trans hS3.sub)
  obtain⟨ad,yd,ha,hcc,hTd⟩:=(hyV.mono (View.aj _ _)).vR hlt
  obtain⟨ad',yd',ha',hcc',hTd'⟩:=hyV.vR hlt
  have hyd:yd' =yd:=by
   rw[ha]at ha';cases ha'
   have h1:=hcc 5 _ rfl
   have h2:=(View.aj V3 w).cell (hcc' 5 _ rfl)
   rw[h1]at h2
   cases yd;cases yd'
   simp only [Option.some.injEq,Value.slice.injEq]at h2
   obtain⟨rfl,rfl,rfl⟩:=h2
   rfl
  subst hyd
  obtain⟨_,_,hm4⟩:=hm3.put hne (m.seq+j+1)
  have hmp:=dP (o' := .cells ⟨[.int .i64 m.data,.slice s.a s.n s.c,.slice hs.a hs.n hs.c,.map (some mb),.int .i64 (m.seq+j+1)]⟩ 71 (0,0)) hm3.box
  have hB4:=hB.ox (o' := .cells ⟨[.int .i64 m.data,.slice s.a s.n s.c,.slice hs.a hs.n hs.c,.map (some mb),.int .i64 (m.seq+j+1)]⟩ 71 (0,0)) hm3.box
  rw[←hmp]at hm4
  have hS4:Mv (fun i=>i=p∨i=mb) V03 (V3.minus w) V03 ((V3.put p (.cells ⟨[.int .i64 m.data,.slice s.a s.n s.c,.slice hs.a hs.n hs.c,.map (some mb),.int .i64 (m.seq+j+1)]⟩ 71 (0,0))).minus w):=by
   rw[hmp];exact Mv.put _ hS3.sub hnp3 (.inl (.inl rfl))
  have e4:V3.sets ((⟨p,0,none⟩:Addr).add 4) [.int .i64 (m.seq+j+1)]=V3.put p (.cells ⟨[.int .i64 m.data,.slice s.a s.n s.c,.slice hs.a hs.n hs.c,.map (some mb),.int .i64 (m.seq+j+1)]⟩ 71 (0,0)):=bxe hbox3 4 _
  refine⟨by omega,by omega,ad,ha,_,_,_,_,_,yd',hcc,fun _=>⟨_,rfl,_,bx hbox3 4 rfl,au (by omega) (by omega),_,rfl,bxc hbox3 4 1 (by simp),trivial, ?_⟩⟩
  rw[e4]
  generalize V3.put p (.cells ⟨[.int .i64 m.data,.slice s.a s.n s.c,.slice hs.a hs.n hs.c,.map (some mb),.int .i64 (m.seq+j+1)]⟩ 71 (0,0))=V4 at hmp hB4 hm4 hS4
  have hbox4:(V4.minus w).see p=some (.cells ⟨[.int .i64 m.data,.slice s.a s.n s.c,.slice hs.a hs.n hs.c,.map (some mb),.int .i64 (m.seq+j+1)]⟩ 71 (0,0)):=hm4.box
  refine⟨V4.minus w,View.aj _ _,_,rfl,some mb,bx hbox4 3 rfl,_,rfl,_,bx hbox4 4 rfl, ?_⟩
  refine(af.iN (K:=fun r U' =>∃z:Sl,r= .slice z.a z.n z.c∧SlR U' z (pgP (cM m.P m.seq (d.todo.take j)) (d.todo.getD j default).old)) hB4 ((mH hm4 hS4.sub _).mono fun r U' ⟨z,h1,h2,h3⟩=>⟨⟨z,h1,h2⟩,h3⟩)).mono ?_
  rintro r V5 ⟨U5,⟨z,rfl,hz⟩,hU45,hU5,hV45⟩
  have hB5:=hB4.mono hV45
  have h45:=hU45.trans hU5
  have h35:V3.size≤V5.size:=by
   have:=hS4.size
   rw[jY,jY]at this
   exact Nat.le_trans this hV45.size
  refine⟨z,rfl,h45.trans (View.aj _ _), ?_⟩
  have hTd5:uw (V5.minus w) yd' (d.todo.getD j default):=⟨hTd'.node,hTd'.aS,hTd'.old,hTd'.keep,hTd'.from_,by
   have h1:V01.Le (V5.minus w):=hS3.base.trans (hS4.sub.trans h45)
   obtain⟨ad2,yd2,ha2,hcc2,hTd2⟩:=(hy1.mono h1).vR hlt
   have hyd2:yd2=yd' :=by
    rw[ha]at ha2;cases ha2
    obtain⟨ad3,yd3,ha3,hcc3,hTd3⟩:=hy1.vR hlt
    rw[ha]at ha3;cases ha3
    have g1:=hcc2 5 _ rfl
    have g2:=h1.cell (hcc3 5 _ rfl)
    have g3:=hcc' 5 _ rfl
    have g4:=(hS3.base.trans hS3.sub).cell (hcc3 5 _ rfl)
    rw[g1]at g2
    rw[ha]at ha';cases ha'
    rw[g3]at g4
    rw[←g4]at g2
    cases yd2;cases yd'
    simp only [Option.some.injEq,Value.slice.injEq]at g2
    obtain⟨rfl,rfl,rfl⟩:=g2
    rfl
   subst hyd2
   exact hTd2.data⟩
  refine(af.iN (K:=fun r U' =>∃b:Nat,(V5.minus w).size≤b∧r= .slice (some ⟨b,0,none⟩) 16 16∧B8 (V5.minus w) U' b (dj (pgP (cM m.P m.seq (d.todo.take j)) (d.todo.getD j default).old) (d.todo.getD j default))) hB5 ((vU (hz.mono hU5) hTd5 (by omega)).mono fun r U' ⟨b,h1,h2,h3⟩=>⟨⟨b,h1,h2,h3⟩,h3.vle⟩)).mono ?_
  rintro r V6 ⟨U6,⟨b,hbz,rfl,hB8⟩,hU56,hU6,hV56⟩
  have h56:=hU56.trans hU6
  have h46:=h45.trans h56
  have hB6:=hB5.mono hV56
  have hb6:(V6.minus w).see b=some (.cells ⟨u8s (dj (pgP (cM m.P m.seq (d.todo.take j)) (d.todo.getD j default).old) (d.todo.getD j default))⟩ 5 (0,0)):=hU6.see _ _ hB8.at_
  have hS6:Mv (fun i=>i=p∨i=mb) V01 V1 V03 (V6.minus w):=(hS3.trans hS4).trans (Mv.grow hS4.sub h46)
  have hb1:V1.see b=none:=View.ax (by
   have h1:=hS3.size
   rw[jY]at h1 hbz
   omega)
  have hb03:V03.see b=none:=View.ax (by
   have h1:=hS3.sub.size
   rw[jY]at h1 hbz
   omega)
  have hS7:=hS6.share hb1 hb6 hb03
  have hz7:SlR (V03.put b (.cells ⟨u8s (dj (pgP (cM m.P m.seq (d.todo.take j)) (d.todo.getD j default).old) (d.todo.getD j default))⟩ 5 (0,0))) ⟨some ⟨b,0,none⟩,16,16⟩ (dj (pgP (cM m.P m.seq (d.todo.take j)) (d.todo.getD j default).old) (d.todo.getD j default)):=by
   have:=bK (te:=5) (W:=V03) (l:=dj (pgP (cM m.P m.seq (d.todo.take j)) (d.todo.getD j default).old) (d.todo.getD j default)) (View.ah V03 b _) (cV _) (View.bB hb03) (by rw[jv];omega)
   rw[jv]at this
   exact this
  have hm6:iE V03 (V6.minus w) p mb ⟨m.data,m.t,m.h,cM m.P m.seq (d.todo.take j),m.seq+j+1⟩ s hs es cl:=⟨h46.see _ _ hm4.box,h46.see _ _ hm4.map,hm4.tre,hm4.bW,hm4.pages⟩
  have hmap6:=(View.aj _ _).see _ _ hm6.map
  have hbox6:V6.see p=some (.cells ⟨[.int .i64 m.data,.slice s.a s.n s.c,.slice hs.a hs.n hs.c,.map (some mb),.int .i64 (m.seq+j+1)]⟩ 71 (0,0)):=(View.aj _ _).see _ _ hm6.box
  obtain⟨f,hf1,hf2,es',cl',hmp',hik',hvl'⟩:=qv (es:=es) (cl:=cl) (k:=m.seq+j+1) (v:= .slice (some ⟨b,0,none⟩) 16 16) hm6.pages.1
  have hbx7:(V6.put mb (.map es' cl')).see p=some (.cells ⟨[.int .i64 m.data,.slice s.a s.n s.c,.slice hs.a hs.n hs.c,.map (some mb),.int .i64 (m.seq+j+1)]⟩ 71 (0,0)):=by
   rw[View.aF _ _ hne];exact hbox6
  refine⟨⟨some ⟨b,0,none⟩,16,16⟩,rfl,h46.trans (View.aj _ _),trivial,mb,es,cl,f,rfl,hmap6,hf1, ?_⟩
  dsimp only
  rw[hmp']
  refine⟨_,rfl,_,bx hbx7 4 rfl,fun r hr=> ?_⟩
  have hB7:=hB6.ox (o' := .map es' cl') hm6.map
  have hmp7:=dP (o' := .map es' cl') hm6.map
  have hR7:aR ((V6.put mb (.map es' cl')).minus w) cs (upS m.seq j):=by
   have:aR (V6.minus w) cs (upS m.seq j):=by
    have h1:=hR.int
    exact h1.rep
   have h1:=this.int
   exact h1.rep
  refine pn (α:=Int) (V0:=(V6.put mb (.map es' cl')).minus w) (d:=m.seq+j+1) rfl hB7 hR7 ⟨rfl,au (by omega) (by omega)⟩ (View.Le.refl _) hr rfl (by show(w.n+1)*8≤_;omega) (by show w.n+1≤_;omega) fun w' V8 cs' g1 g2 g3=> ?_
  have hmb7:(V03.put b (.cells ⟨u8s (dj (pgP (cM m.P m.seq (d.todo.take j)) (d.todo.getD j default).old) (d.todo.getD j default))⟩ 5 (0,0))).see mb=none:=hS7.apart _ hnm1 (by rw[hm1.map];simp)
  rw[hmp7]at g3
  have hS8:Mv (fun i=>i=p∨i=mb) (V03.put b (.cells ⟨u8s (dj (pgP (cM m.P m.seq (d.todo.take j)) (d.todo.getD j default).old) (d.todo.getD j default))⟩ 5 (0,0))) (V6.minus w) (V03.put b (.cells ⟨u8s (dj (pgP (cM m.P m.seq (d.todo.take j)) (d.todo.getD j default).old) (d.todo.getD j default))⟩ 5 (0,0))) (V8.minus w'):=
   (Mv.put (.map es' cl') hS7.sub hmb7 (.inl (.inr rfl))).trans (Mv.grow (Mv.put (B:=fun i=>i=p∨i=mb) (.map es' cl') hS7.sub hmb7 (.inl (.inr rfl))).sub g3)
  refine⟨au (by omega) (by omega),⟨j+1,_,cs',es',cl',by omega,by omega,g1,by rw[nE];exact g2,hS7.trans hS8, ?_, ?_,hm6.tre.mono (View.bB hb03),hm6.bW.mono (View.bB hb03), ?_⟩,by omega⟩
  ·rw[show m.seq+((j+1:Nat):Int)=m.seq+j+1 by push_cast;omega]
   refine g3.see _ _ ?_
   rw[View.aF _ _ hne];exact hm6.box
  ·exact g3.see _ _ (View.ah _ _ _)
  ·rw[eI hlt,mE,List.length_take,Nat.min_eq_left (by omega)]
   exact hm6.pages.put (View.bB hb03) hz7 hik' hvl'
 ·have hge:j=d.todo.length:=by have:=of_decide_eq_false hge;omega
  subst hge
  rw[List.take_length]at hm3
  have hSw:Mv (fun i=>i=p∨i=mb) V01 V1 V03 V3:=hS3.trans (Mv.grow hS3.sub (View.aj _ _))
  obtain⟨V04,hS4,hle4,hw4,hno4⟩:=hB.share (α:=Int) hSw (hR.int.rep) (fun i hi=>hS3.keep i hi) hS3.sub
  have hnp4:V04.see p=none:=hS4.apart _ hnp1 (by rw[hm1.box];simp)
  have hnm4:V04.see mb=none:=hS4.apart _ hnm1 (by rw[hm1.map];simp)
  have hm4:iE V04 V3 p mb ⟨m.data,m.t,m.h,cM m.P m.seq d.todo,m.seq+d.todo.length⟩ s hs es cl:=⟨hbox3,hmap3,hm3.tre.mono hle4,hm3.bW.mono hle4,hm3.pages.mono hle4⟩
  have hDd:uQ V04 [.slice s1.a s1.n s1.c,.slice h1.a h1.n h1.c,.slice y1.a y1.n y1.c,.int .i64 d.a.err,.int .i64 d.a.hand,.int .i64 d.a.n,.int .i64 d.a.kind,.int .i64 d.a.links,.slice x1.a x1.n x1.c,.slice n1.a n1.n n1.c] d:=⟨s1,h1,y1,x1,n1,rfl,hs1.mono hS4.base,hh1.mono hS4.base,hy1.mono hS4.base,hx1.mono hS4.base,hn1.mono hS4.base⟩
  refine ai (fun q V5=>q.2.1=h1∧q.2.2.2.1=d.a.err∧q.2.2.2.2.1=d.a.hand∧q.2.2.2.2.2.1=d.a.n∧q.2.2.2.2.2.2.1=d.a.kind∧q.2.2.2.2.2.2.2.1=d.a.links∧q.2.2.2.2.2.2.2.2.1=x1∧q.2.2.2.2.2.2.2.2.2.1=n1∧
   ∃V05,Mv (fun i=>i=p∨i=mb) V04 V3 V05 V5∧V3.Le V5∧SlR V05 q.1 (doP m c).t) (aa (fun hb=> ?_) (fun hb=> ?_)) ?_
  ·have hb:=of_decide_eq_true hb
   have hne0:d.todo≠ []:=by
    intro e
    rw[e]at hwn
    have:w.n=0:=hwn
    omega
   refine(af.stp (B:=fun i=>i=p∨i=mb) (K:=fun r V' =>∃x:Sl,r= .tuple ⟨[aZ x,.int .i64 0]⟩∧SlR V' x (ck (cN d.todo) d.t d.todo (upS m.seq d.todo.length))) hS4.sub ((wF (hs1.mono hS4.base) (hy1.mono hS4.base) hw4 (hpre hne0)).mono fun r V' ⟨x,h1,h2,h3⟩=>⟨⟨x,h1,h2⟩,h3⟩)).mono ?_
   rintro r V5 ⟨V05,⟨x,rfl,hx⟩,hS5,hV5⟩
   refine⟨x,_,rfl,rfl,rfl,rfl,rfl,rfl,rfl,rfl,rfl,V05,hS5,hV5, ?_⟩
   rw[hdef];exact hx
  ·have hb:=of_decide_eq_false hb
   have hl0:d.todo= []:=List.length_eq_zero_iff.1 (by omega)
   refine⟨rfl,rfl,rfl,rfl,rfl,rfl,rfl,rfl,V04,Mv.refl hS4.sub,View.Le.refl _, ?_⟩
   rw[hdef,hl0]
   exact hs1.mono hS4.base
  rintro⟨x,x12,x13,x14,x15,x16,x17,x18,x19,x20,⟨⟩⟩ V5 ⟨e1,e2,e3,e4,e5,e6,e7,e8,V05,hS5,hV5,hx⟩
  have e1:x12=h1:=e1
  have e2:x14=d.a.err:=e2
  have e3:x15=d.a.hand:=e3
  have e4:x16=d.a.n:=e4
  have e5:x17=d.a.kind:=e5
  have e6:x18=d.a.links:=e6
  have e7:x19=x1:=e7
  have e8:x20=n1:=e8
  have hx:SlR V05 x (doP m c).t:=hx
  subst e1 e2 e3 e4 e5 e6 e7 e8
  dsimp only [unc]
  have hnp5:V05.see p=none:=hS5.apart _ hnp4 (by rw[hm4.box];simp)
  have hnm5:V05.see mb=none:=hS5.apart _ hnm4 (by rw[hm4.map];simp)
  have hbox5:=hV5.see _ _ hbox3
  have hmap5:=hV5.see _ _ hmap3
  have f1:V5.sets ((⟨p,0,none⟩:Addr).add 1) [.slice x.a x.n x.c]=V5.put p (.cells ⟨[.int .i64 m.data,.slice x.a x.n x.c,.slice hs.a hs.n hs.c,.map (some mb),.int .i64 (m.seq+d.todo.length)]⟩ 71 (0,0)):=bxe hbox5 1 _
  have hbox6:(V5.put p (.cells ⟨[.int .i64 m.data,.slice x.a x.n x.c,.slice hs.a hs.n hs.c,.map (some mb),.int .i64 (m.seq+d.todo.length)]⟩ 71 (0,0))).see p=some (.cells ⟨[.int .i64 m.data,.slice x.a x.n x.c,.slice hs.a hs.n hs.c,.map (some mb),.int .i64 (m.seq+d.todo.length)]⟩ 71 (0,0)):=View.ah _ _ _
  have f2:(V5.put p (.cells ⟨[.int .i64 m.data,.slice x.a x.n x.c,.slice hs.a hs.n hs.c,.map (some mb),.int .i64 (m.seq+d.todo.length)]⟩ 71 (0,0))).sets ((⟨p,0,none⟩:Addr).add 2) [.slice x12.a x12.n x12.c]=V5.put p (.cells ⟨[.int .i64 m.data,.slice x.a x.n x.c,.slice x12.a x12.n x12.c,.map (some mb),.int .i64 (m.seq+d.todo.length)]⟩ 71 (0,0)):=by
   rw[bxe hbox6,View.uO];rfl
  have g1:Mv (fun i=>i=p∨i=mb) V05 V5 V05 (V5.put p (.cells ⟨[.int .i64 m.data,.slice x.a x.n x.c,.slice hs.a hs.n hs.c,.map (some mb),.int .i64 (m.seq+d.todo.length)]⟩ 71 (0,0))):=Mv.put _ hS5.sub hnp5 (.inl (.inl rfl))
  have g2:Mv (fun i=>i=p∨i=mb) V05 V5 V05 (V5.put p (.cells ⟨[.int .i64 m.data,.slice x.a x.n x.c,.slice x12.a x12.n x12.c,.map (some mb),.int .i64 (m.seq+d.todo.length)]⟩ 71 (0,0))):=Mv.put _ hS5.sub hnp5 (.inl (.inl rfl))
  refine⟨trivial,V05,hS5.sub,_,rfl,bxc hbox5 1 1 (by simp), ?_⟩
  rw[f1]
  refine⟨g1.sub,_,rfl,bxc hbox6 2 1 (by simp), ?_⟩
  rw[f2]
  refine⟨V05,((hS1'.trans hS4).trans hS5).trans g2,⟨g2.sub,hnp5,hnm5,hne,x,x12,es,cl, ?_⟩,x19,x20,rfl,hx1.mono (hS4.base.trans hS5.base),hn1.mono (hS4.base.trans hS5.base)⟩
  rw[hdef]
  rw[hdef]at hx
  exact⟨View.ah _ _ _,by rw[View.aF _ _ (fun e=>hne e.symm)];exact hmap5,hx,hh1.mono (hS4.base.trans hS5.base),hm4.pages.mono hS5.base⟩
end
def NoB:Nat→Prop:=fun _=>False
def rA (pg:Int→List UInt8) (n:Nod):List UInt8:=if n.kind=1 then(aC 0 n.size).flatMap fun p=>(pg p.aS).take p.len.toNat else []
def oz (m:bQ) (i:Int):List UInt8:=if i<0∨(m.t.length:Int)≤i then []else
 rA (fun p=>pgP m.P ((m.t.getD i.toNat default).an.getD p.toNat 0)) (m.t.getD i.toNat default)
noncomputable def cF (t:Tre):Nat→Tre
 | 0=>t
 | k+1=>match c9 (cF t k) k with
   | .ok u=>u
   | .error _=>cF t k
noncomputable def eC (m:bQ):bQ:=⟨m.data,cF m.t 12,iY,m.P,m.seq⟩
def r6 (d:Int):bQ:=⟨d,firstT,iY,fun _=>none,0⟩
theorem jZ {t:Tre} (h:aY t=true):∀k,aY (cF t k)=true∧dV (cF t k) t
 | 0=>⟨h,dV.refl t⟩
 | k+1=>by
   obtain⟨h1,h2⟩:=jZ h k
   unfold cF
   split
   ·rename_i u hu;exact⟨tC hu,(wS hu).trans h2⟩
   ·exact⟨h1,h2⟩
theorem wV:cY iY=false:=by decide
theorem OkP.mk5 {d:Int} {t:Tre} {h:List Int} {P:Int→Option (List UInt8)} {q:Int} (h1:aY t=true) (h2:cY h=false) (h3:1≤d) (h4:d≤60) (h5:0≤q) (h6:rY t q) (h7:∀k b,P k=some b→b.length=16):OkP ⟨d,t,h,P,q⟩:=⟨h1,h2,h3,h4,h5,h6,h7⟩
theorem OkP.nN {m:bQ} (h:OkP m):OkP (eC m):=by
 unfold eC
 exact OkP.mk5 (jZ h.may 12).1 wV h.d1 h.d2 h.s0 ((jZ h.may 12).2.top h.top h.s0) h.p16
theorem yC:bC firstT= []:=by decide
theorem OkP.new {d:Int} (h1:1≤d) (h2:d≤60):OkP (r6 d):=
 ⟨mj,wV,h1,h2,Int.le_refl 0,(fun s hs=>by
  have hs:s∈bC firstT:=hs
  rw[yC]at hs;cases hs),(fun q b h=>by cases h)⟩
section
variable {V0 V:View} {p mb:Nat} {m:bQ} {c:Cal} {y:Sl}
theorem nO (hm:ov V0 V p mb m) (hO:OkP m) (hc:kQ V0 y c) (hg:Glo V0):
  af Tryz.prog 16 ⟨[.pointer (some ⟨p,0,none⟩),q8 c y]⟩ V fun r V' =>r= .bool (cv m c)∧∃V0',Mv NoB V0 V V0' V' :=by
 refine LK ?_
 unfold Gl
 obtain⟨s,hs,es,cl,hmc⟩:=hm.ex
 refine fun _=>aa (fun h=>by cases h) (fun _=>(o3 hmc hm.le hm.np hm.nm hO hc hg).mono ?_)
 rintro r V1 ⟨V01,hS1,cs1,rfl,hD⟩
 obtain⟨s1,h1,y1,x1,n1,rfl,hs1,hh1,hy1,hx1,hn1⟩:=hD.ex
 have hm1:=hmc.stp hS1 id id
 have hy1n:=hy1.n
 refine⟨s1,h1,y1,_,_,_,_,_,x1,n1,rfl,fun _=> ?_⟩
 refine ai (fun q V2=>q.1=cv m c∧V2=V1) ⟨trivial,V1,View.Le.refl _,aa (fun hb=>⟨?_,rfl⟩) (fun hb=> ?_)⟩ ?_
 ·unfold cv
  rw[decide_eq_true (by have:=of_decide_eq_true hb;omega)];rfl
 ·refine⟨_,rfl,s,bx1 hm1.box 1 rfl,(Dg (hs1.mono hS1.sub) (hm1.tre.mono hS1.sub)).mono ?_⟩
  rintro r V2 ⟨rfl,rfl⟩
  refine⟨_,rfl, ?_,rfl⟩
  unfold cv
  rw[decide_eq_false (show ¬0<(aK m c).todo.length by have:=of_decide_eq_false hb;omega)];rfl
 rintro⟨q,⟨⟩⟩ V2 ⟨h1,hV⟩
 have h1:q=cv m c:=h1
 have hV:V2=V1:=hV
 subst h1 hV
 exact⟨rfl,V01,hS1⟩
theorem yD (hm:ov V0 V p mb m) (hM:aY m.t=true):af Tryz.prog 15 ⟨[.pointer (some ⟨p,0,none⟩)]⟩ V fun r V' =>∃(V0' :View) (x:Sl),r=aZ x∧SlR V0' x m.t∧Mv NoB V0 V V0' V' :=by
 refine LJ ?_
 unfold Gk
 obtain⟨s,hs,es,cl,hmc⟩:=hm.ex
 refine fun _=>aa (fun h=>by cases h) (fun _=>⟨_,rfl,s,bx1 hmc.box 1 rfl, ?_⟩)
 refine(af.stp (B:=NoB) (K:=fun r V' =>∃x:Sl,r=aZ x∧SlR V' x m.t) hm.le ((eS hmc.tre (cg hM)).mono fun r V' ⟨x,h1,h2⟩=>⟨⟨x,h1,h2.slR⟩,h2.le⟩)).mono ?_
 rintro r V1 ⟨V01,⟨x,rfl,hx⟩,hS,_⟩
 exact⟨x,rfl,V01,x,rfl,hx,hS⟩
theorem wW (hm:ov V0 V p mb m) (ho:cY m.h=false):af Tryz.prog 27 ⟨[.pointer (some ⟨p,0,none⟩)]⟩ V fun r V' =>∃(V0' :View) (x:Sl),r= .slice x.a x.n x.c∧SlR V0' x m.h∧Mv NoB V0 V V0' V' :=by
 refine LV ?_
 unfold Gx
 obtain⟨s,hs,es,cl,hmc⟩:=hm.ex
 refine aa (fun h=>by cases h) (fun _=>⟨_,rfl,hs,bx hmc.box 2 rfl, ?_⟩)
 refine(af.stp (B:=NoB) (K:=fun r V' =>∃x:Sl,r= .slice x.a x.n x.c∧SlR V' x m.h) hm.le ((sQ hmc.bW (by rw[cT ho];decide)).mono fun r V' ⟨x,h1,h2,h3⟩=>⟨⟨x,h1,h2⟩,h3⟩)).mono ?_
 rintro r V1 ⟨V01,⟨x,rfl,hx⟩,hS,_⟩
 exact⟨x,rfl,V01,x,rfl,hx,hS⟩
theorem rB (pg:Int→List UInt8) (hpg:∀q,(pg q).length=16):∀l:List Pce,(l.flatMap fun p=>(pg p.aS).take p.len.toNat).length≤16*l.length
 | []=>by simp
 | p::l=>by
   have:=rB pg hpg l
   rw[List.flatMap_cons,List.length_append,List.length_cons,List.length_take,hpg]
   omega
theorem AA {α:Type} {f:Pce→List α} {l:List Pce} {j:Nat} (h:j<l.length):(l.take (j+1)).flatMap f=(l.take j).flatMap f++f (l.getD j default):=by
 rw[eI h,List.flatMap_append,List.flatMap_singleton]
theorem wX (hm:ov V0 V p mb m) (hO:OkP m) (i:Int):af Tryz.prog 28 ⟨[.pointer (some ⟨p,0,none⟩),.int .i64 i]⟩ V fun r V' =>∃x:Sl,r= .slice x.a x.n x.c∧SlR V' x (oz m i)∧V.Le V' :=by
 refine LW ?_
 unfold Gy
 obtain⟨s,hs,es,cl,hmc⟩:=hm.ex
 have h12:=(bP hO.may).len
 have hsn:=hmc.tre.n
 refine ai (fun q V2=>q.1=decide (i<0∨(m.t.length:Int)≤i)∧V2=V) (aa (fun hb=>⟨?_,rfl⟩) (fun hb=>⟨_,rfl,s,by rw[Addr.add_add];exact bx hmc.box 1 rfl, ?_,rfl⟩)) ?_
 ·have hb:i<0:=by simpa using hb
  rw[decide_eq_true (.inl hb)]
 ·have hb:¬i<0:=by simpa using hb
  exact decide_eq_decide.2 ⟨fun h=> .inr (by omega),fun h=>by omega⟩
 rintro⟨q,⟨⟩⟩ V2 ⟨h1,hV⟩
 have h1:q=decide (i<0∨(m.t.length:Int)≤i):=h1
 have hV:V2=V:=hV
 subst h1 hV
 dsimp only [unc]
 unfold oz
 refine aa (fun hb=> ?_) (fun hb=> ?_)
 ·rw[if_pos (of_decide_eq_true hb)]
  exact⟨⟨none,0,0⟩,rfl,SlR.nil _ _ _,View.Le.refl _⟩
 have hb:=of_decide_eq_false hb
 rw[if_neg hb]
 obtain⟨ad,sq,en,ha,hcc,hN⟩:=(hmc.tre.mono hm.le).bO (i:=i.toNat) (by omega)
 refine⟨_,rfl,s,by rw[Addr.add_add];exact bx hmc.box 1 rfl,by omega,by omega,ad,ha,_,_,_,sq,en,hcc,fun _=> ?_⟩
 unfold rA
 refine aa (fun hk=> ?_) (fun hk=> ?_)
 ·rw[if_neg (of_decide_eq_false (aM hk))]
  exact⟨⟨none,0,0⟩,rfl,SlR.nil _ _ _,View.Le.refl _⟩
 have hk:=of_decide_eq_true (aD hk)
 rw[if_pos hk]
 have h5:=(bN ((bP hO.may).at (show i.toNat<12 by omega)) hk).2.2.2.2.1
 have hsqn:=hN.an.n
 let pg:Int→List UInt8:=fun p=>pgP m.P ((m.t.getD i.toNat default).an.getD p.toNat 0)
 have hpg:∀q,(pg q).length=16:=fun q=>nJ hO.p16 _
 have hpl:=dL 0 (m.t.getD i.toNat default).size
 refine gx.mono ?_
 rintro r V3 ⟨x,rfl,hx,hV3⟩
 have hxn:=hx.n
 refine⟨x,rfl, ?_⟩
 refine di (k:= .sl) (l:= .int .i64) (fun(w:Sl) (jj:Int) V4=>∃(j:Nat),jj=j∧j≤(aC 0 (m.t.getD i.toNat default).size).length∧Buf V4 w 5 1 (u8s (((aC 0 (m.t.getD i.toNat default).size).take j).flatMap fun p=>(pg p.aS).take p.len.toNat))∧V3.Le (V4.minus w)) (fun _ (jj:Int) _=>(aC 0 (m.t.getD i.toNat default).size).length-jj.toNat)
  ⟨0,rfl,by omega,Buf.nil _ _ _,View.Le.refl _⟩ ?_
 rintro(w:Sl) (jj:Int) V4 ⟨j,rfl,hj,hB,hV4⟩
 refine aa (fun hlt=> ?_) (fun hge=> ?_)
 ·have hlt:j<(aC 0 (m.t.getD i.toNat default).size).length:=by have:=of_decide_eq_true hlt;omega
  have hqm:(aC 0 (m.t.getD i.toNat default).size).getD j default∈aC 0 (m.t.getD i.toNat default).size:=by rw[aB hlt];exact List.getElem_mem _
  obtain⟨q1,q2,q3,q4,q5⟩:=gi hqm
  have hV24:V2.Le (V4.minus w):=hV3.trans hV4
  obtain⟨ad2,ha2,hc2⟩:=(hx.mono (hV4.trans (View.aj _ _))).xR hlt
  obtain⟨ad3,ha3,hc3,_⟩:=(hN.an.mono hV24).fD (i:=((aC 0 (m.t.getD i.toNat default).size).getD j default).aS.toNat) (by omega)
  have hm4:iE V0 (V4.minus w) p mb m s hs es cl:=⟨hV24.see _ _ hmc.box,hV24.see _ _ hmc.map,hmc.tre,hmc.bW,hmc.pages⟩
  refine⟨by omega,by omega,ad2,ha2,_,_,_,hc2,fun _=>⟨trivial,V4.minus w,View.aj _ _,by omega,by omega,ad3,ha3,_,hc3, ?_⟩⟩
  refine(af.iN (K:=fun r U' =>∃z:Sl,r= .slice z.a z.n z.c∧SlR U' z (pgP m.P ((m.t.getD i.toNat default).an.getD ((aC 0 (m.t.getD i.toNat default).size).getD j default).aS.toNat 0))) hB ((mH hm4 (hm.le.trans hV24) _).mono fun r U' ⟨z,h1,h2,h3⟩=>⟨⟨z,h1,h2⟩,h3⟩)).mono ?_
  rintro r V5 ⟨U,⟨z,rfl,hz⟩,hU1,hU2,hV45⟩
  have hzn:=hz.n;have hzc:=hz.c
  have hz16:(pgP m.P ((m.t.getD i.toNat default).an.getD ((aC 0 (m.t.getD i.toNat default).size).getD j default).aS.toNat 0)).length=16:=hpg _
  have hdl:=rB pg hpg ((aC 0 (m.t.getD i.toNat default).size).take j)
  rw[List.length_take]at hdl
  refine⟨z,rfl,(View.aj _ _).trans hV45,by omega,by omega,by omega, ?_⟩
  rw[show(if z.c=0 then z.a else Option.map (fun(x:Addr)=>x.add 0) z.a)=z.a by rw[cu,ite_self]]
  have hsub:=(hz.take (j:=((aC 0 (m.t.getD i.toNat default).size).getD j default).len.toNat) (by omega)).mono hU2
  refine ew (α:=UInt8) (V0:=V5.minus w) (m:=(pgP m.P ((m.t.getD i.toNat default).an.getD ((aC 0 (m.t.getD i.toNat default).size).getD j default).aS.toNat 0)).take ((aC 0 (m.t.getD i.toNat default).size).getD j default).len.toNat) rfl (hB.mono hV45) (cV _) hsub (View.Le.refl _) (by simp only [List.length_take];omega) (by simp only [List.length_take];omega) ?_
  intro w' V6 cs' g1 g2 g3
  have e5:=jM g2
  subst e5
  refine⟨au (by omega) (by omega),⟨j+1,by omega,by omega, ?_,hV4.trans (hU1.trans (hU2.trans g3))⟩,by omega⟩
  rw[AA hlt];exact g1
 ·have hge:j=(aC 0 (m.t.getD i.toNat default).size).length:=by have:=of_decide_eq_false hge;omega
  subst hge
  rw[List.take_length]at hB
  exact⟨w,rfl,hB.slR (W:=V4) (cV _) (View.Le.refl _),hV3.trans (hV4.trans (View.aj _ _))⟩
theorem tD (hle:V0.Le V) {d:Int} (h1:1≤d) (h2:d≤60):af Tryz.prog 13 ⟨[.int .i64 d]⟩ V fun r V' =>∃(V0' :View) (p mb:Nat),r= .pointer (some ⟨p,0,none⟩)∧Mv NoB V0 V V0' V' ∧V.see p=none∧V.see mb=none∧ov V0' V' p mb (r6 d):=by
 refine Gi ?_
 unfold Bn
 refine aa (fun h=>absurd h (by rw[decide_eq_false (by omega),decide_eq_false (by omega)];decide)) (fun _=> ?_)
 refine(af.stp (B:=NoB) (K:=fun r V' =>∃x:Sl,r=aZ x∧SlR V' x firstT) hle (Dh.mono fun r V' ⟨x,h1,h2,h3⟩=>⟨⟨x,h1,h2⟩,h3⟩)).mono ?_
 rintro r V1 ⟨V01,⟨x,rfl,hx⟩,hS1,hV1⟩
 refine⟨x,rfl, ?_⟩
 refine(af.stp (B:=NoB) (K:=fun r V' =>∃x:Sl,r= .slice x.a x.n x.c∧SlR V' x iY) hS1.sub (qX.mono fun r V' ⟨x,h1,h2,h3⟩=>⟨⟨x,h1,h2⟩,h3⟩)).mono ?_
 rintro r V2 ⟨V02,⟨z,rfl,hz⟩,hS2,hV2⟩
 refine⟨z,rfl,fun mb hmb p hp=> ?_⟩
 have hfm:=View.ax hmb
 have hne:p≠mb:=by rintro rfl;rw[View.ah]at hp;cases hp
 have hp2:V2.see p=none:=by rw[View.aF _ _ hne]at hp;exact hp
 have hS12:=hS1.trans hS2
 have hnp:V02.see p=none:=b5 hS2.sub hp2
 have hnm:V02.see mb=none:=b5 hS2.sub hfm
 have hS3:Mv NoB V02 V2 V02 (V2.put mb (.map #[] 0)):=Mv.put _ hS2.sub hnm (.inr hfm)
 have hS4:Mv NoB V02 (V2.put mb (.map #[] 0)) V02 ((V2.put mb (.map #[] 0)).put p (.cells ⟨[.int .i64 d,.slice x.a x.n x.c,.slice z.a z.n z.c,.map (some mb),.int .i64 0]⟩ 71 (0,0))):=Mv.put _ hS3.sub hnp (.inr hp)
 refine⟨V02,p,mb,rfl,(hS12.trans hS3).trans hS4,b5 (hV1.trans hV2) hp2,b5 (hV1.trans hV2) hfm,hS4.sub,hnp,hnm,hne,x,z, #[],0,View.ah _ _ _, ?_,hx.mono hS2.base,hz, ?_⟩
 ·rw[View.aF _ _ (fun e=>hne e.symm)];exact View.ah _ _ _
 ·exact⟨fun e he=>(by cases he),fun q=>rfl⟩
theorem r7 (hm:ov V0 V p mb m) (hO:OkP m):af Tryz.prog 22 ⟨[.pointer (some ⟨p,0,none⟩)]⟩ V fun r V' =>r= .tuple ⟨[]⟩∧∃V0',Mv (fun i=>i=p∨i=mb) V0 V V0' V' ∧ov V0' V' p mb (eC m):=by
 refine LQ ?_
 unfold Gs
 obtain⟨s,hs,es,cl,hmc⟩:=hm.ex
 have hne:=hm.ne
 refine aa (fun h=>by cases h) (fun _=> ?_)
 refine(af.stp (B:=fun i=>i=p∨i=mb) (K:=fun r V' =>∃x:Sl,r= .slice x.a x.n x.c∧SlR V' x iY) hm.le (qX.mono fun r V' ⟨x,h1,h2,h3⟩=>⟨⟨x,h1,h2⟩,h3⟩)).mono ?_
 rintro r V1 ⟨V01,⟨z,rfl,hz⟩,hS1,hV1⟩
 have hbox1:=hV1.see _ _ hmc.box
 have hmap1:=hV1.see _ _ hmc.map
 have hnp1:V01.see p=none:=hS1.apart _ hm.np (by rw[hmc.box];simp)
 have hnm1:V01.see mb=none:=hS1.apart _ hm.nm (by rw[hmc.map];simp)
 have e1:V1.sets ((⟨p,0,none⟩:Addr).add 2) [.slice z.a z.n z.c]=V1.put p (.cells ⟨[.int .i64 m.data,.slice s.a s.n s.c,.slice z.a z.n z.c,.map (some mb),.int .i64 m.seq]⟩ 71 (0,0)):=bxe hbox1 2 _
 refine⟨z,rfl,_,rfl,bxc hbox1 2 1 (by simp), ?_⟩
 rw[e1]
 have hS2:Mv (fun i=>i=p∨i=mb) V01 V1 V01 (V1.put p (.cells ⟨[.int .i64 m.data,.slice s.a s.n s.c,.slice z.a z.n z.c,.map (some mb),.int .i64 m.seq]⟩ 71 (0,0))):=Mv.put _ hS1.sub hnp1 (.inl (.inl rfl))
 have hm2:iE V01 (V1.put p (.cells ⟨[.int .i64 m.data,.slice s.a s.n s.c,.slice z.a z.n z.c,.map (some mb),.int .i64 m.seq]⟩ 71 (0,0))) p mb ⟨m.data,m.t,iY,m.P,m.seq⟩ s z es cl:=
  ⟨View.ah _ _ _,by rw[View.aF _ _ (fun e=>hne e.symm)];exact hmap1,hmc.tre.mono hS1.base,hz,hmc.pages.mono hS1.base⟩
 generalize V1.put p (.cells ⟨[.int .i64 m.data,.slice s.a s.n s.c,.slice z.a z.n z.c,.map (some mb),.int .i64 m.seq]⟩ 71 (0,0))=V2 at hS2 hm2
 have hsn:=hm2.tre.n
 have h12:=(bP hO.may).len
 refine⟨_,rfl,s,by rw[Addr.add_add];exact bx hm2.box 1 rfl, ?_⟩
 refine bh (k:= .int .i64) (fun(jj:Int) V3=>∃(j:Nat) (V03:View) (s:Sl),jj=j∧j≤12∧Mv (fun i=>i=p∨i=mb) V0 V V03 V3∧iE V03 V3 p mb ⟨m.data,cF m.t j,iY,m.P,m.seq⟩ s z es cl) (fun(jj:Int) _=>12-jj.toNat)
  ⟨0,V01,s,rfl,by omega,hS1.trans hS2,hm2⟩ ?_
 rintro(jj:Int) V3 ⟨j,V03,s3,rfl,hj,hS3,hm3⟩
 refine aa (fun hlt=> ?_) (fun hge=> ?_)
 ·have hlt:j<12:=by
   have:=of_decide_eq_true hlt
   have hsn:s.n=m.t.length:=hsn
   omega
  refine⟨_,rfl,s3,bx1 hm3.box 1 rfl, ?_⟩
  refine(af.stp (B:=fun i=>i=p∨i=mb) (K:=fun r V' =>gH V03 V' r (c9 (cF m.t j) j)) hS3.sub ((zw hm3.tre).mono fun r V' h=>⟨h,h.2⟩)).mono ?_
  rintro r V4 ⟨V04,⟨⟨x,e,rfl,hx⟩,_⟩,hS4,hV4⟩
  have hbox4:V4.see p=some (.cells ⟨[.int .i64 m.data,.slice s3.a s3.n s3.c,.slice z.a z.n z.c,.map (some mb),.int .i64 m.seq]⟩ 71 (0,0)):=hV4.see _ _ hm3.box
  have hmap4:=hV4.see _ _ hm3.map
  have hnp4:V04.see p=none:=(hS3.trans hS4).apart _ hm.np (by rw[hmc.box];simp)
  have hm4:iE V04 V4 p mb ⟨m.data,cF m.t j,iY,m.P,m.seq⟩ s3 z es cl:=⟨hbox4,hmap4,hm3.tre.mono hS4.base,hm3.bW.mono hS4.base,hm3.pages.mono hS4.base⟩
  refine⟨x,e,rfl,fun _=>ai (fun _ V5=>∃(V05:View) (s:Sl),Mv (fun i=>i=p∨i=mb) V0 V V05 V5∧iE V05 V5 p mb ⟨m.data,cF m.t (j+1),iY,m.P,m.seq⟩ s z es cl) (aa (fun hb=> ?_) (fun hb=> ?_)) ?_⟩
  ·have hb:=of_decide_eq_true hb
   cases hd:c9 (cF m.t j) j with
   | error e' =>rw[hd]at hx;exact absurd (hx.1.symm.trans hb) hx.2.1
   | ok u=>
     rw[hd]at hx
     have hst:cF m.t (j+1)=u:=by unfold cF;rw[hd]
     rw[hst]
     have e5:V4.sets ((⟨p,0,none⟩:Addr).add 1) [.slice x.a x.n x.c]=V4.put p (.cells ⟨[.int .i64 m.data,.slice x.a x.n x.c,.slice z.a z.n z.c,.map (some mb),.int .i64 m.seq]⟩ 71 (0,0)):=bxe hbox4 1 _
     refine⟨_,rfl,bxc hbox4 1 1 (by simp), ?_⟩
     rw[e5]
     exact⟨V04,x,(hS3.trans hS4).trans (Mv.put _ hS4.sub hnp4 (.inl (.inl rfl))),View.ah _ _ _,by rw[View.aF _ _ (fun e=>hne e.symm)];exact hmap4,hx.2,hm4.bW,hm4.pages⟩
  ·have hb:=of_decide_eq_false hb
   cases hd:c9 (cF m.t j) j with
   | ok u=>rw[hd]at hx;exact absurd hx.1 hb
   | error e' =>
     have hst:cF m.t (j+1)=cF m.t j:=by conv=>lhs;unfold cF
                                        rw[hd]
     rw[hst]
     exact⟨V04,s3,hS3.trans hS4,hm4⟩
  ·rintro⟨⟩ V5 ⟨V05,s5,hS5,hm5⟩
   exact⟨au (by omega) (by omega),⟨j+1,V05,s5,by omega,by omega,hS5,hm5⟩,by omega⟩
 ·have hge:j=12:=by
   have:=of_decide_eq_false hge
   have hsn:s.n=m.t.length:=hsn
   omega
  subst hge
  unfold eC
  exact⟨rfl,V03,hS3,hS3.sub,hS3.apart _ hm.np (by rw[hmc.box];simp),hS3.apart _ hm.nm (by rw[hmc.map];simp),hne,s3,z,es,cl,hm3⟩
end
def HS (a b:Nod):Prop:=a.kind=1∧a.size=b.size∧a.an=b.an
structure gJ (held:Nat→Prop) (u t:Tre):Prop where
 len:u.length=t.length
 pos:∀i p,(u.getD i default).an.getD p 0=0∨(u.getD i default).an.getD p 0=(t.getD i default).an.getD p 0
 same:∀i,held i→ak t i=1→HS (u.getD i default) (t.getD i default)
theorem gJ.refl (held:Nat→Prop) (t:Tre):gJ held t t:=⟨rfl,fun _ _=> .inr rfl,fun _ _ h=>⟨h,rfl,rfl⟩⟩
theorem gJ.trans {held:Nat→Prop} {a b c:Tre} (h:gJ held a b) (k:gJ held b c):gJ held a c:=by
 refine⟨h.len.trans k.len,fun i p=> ?_,fun i hi hk=> ?_⟩
 ·rcases h.pos i p with e | e
  ·exact .inl e
  ·rcases k.pos i p with e' | e'
   ·exact .inl (e.trans e')
   ·exact .inr (e.trans e')
 ·obtain⟨a1,a2,a3⟩:=k.same i hi hk
  obtain⟨b1,b2,b3⟩:=h.same i hi a1
  exact⟨b1,b2.trans a2,b3.trans a3⟩
theorem fC {t:Tre} {k j:Nat} {n:Nod} :(t.set k n).getD j default=if j=k∧k<t.length then n else t.getD j default:=by
 by_cases hk:k<t.length
 ·rw[dc hk]
  by_cases e:j=k
  ·rw[if_pos e,if_pos ⟨e,hk⟩]
  ·rw[if_neg e,if_neg (fun h=>e h.1)]
 ·rw[List.set_eq_of_length_le (by omega),if_neg (fun h=>hk h.2)]
theorem gJ.set {held:Nat→Prop} {t:Tre} {k:Nat} {n:Nod} (h1:∀p,n.an.getD p 0=0∨n.an.getD p 0=(t.getD k default).an.getD p 0) (h2:held k→ak t k=1→HS n (t.getD k default)):gJ held (t.set k n) t:=by
 refine⟨by simp,fun i p=> ?_,fun i hi hk=> ?_⟩
 ·rw[fC]
  split
  ·rename_i e;rw[e.1];exact h1 p
  ·exact .inr rfl
 ·rw[fC]
  split
  ·rename_i e;rw[e.1]at hi hk ⊢;exact h2 hi hk
  ·exact⟨hk,rfl,rfl⟩
section
variable {held:Nat→Prop}
theorem gK (t:Tre) (d:Nat) (l:List Ent):gJ held (aJ t d l) t:=gJ.set (fun _=> .inr rfl) fun _ h=>⟨h,rfl,rfl⟩
theorem rC (t:Tre) (d:Nat) (l:List Ent) (i:Nat):ak (aJ t d l) i=ak t i:=by
 unfold ak aJ
 rw[fC]
 split
 ·rename_i e;rw[e.1]
 ·rfl
theorem oA {t:Tre} {k:Nat} (h:¬(held k∧ak t k=1)):gJ held (t.set k Nod.zero) t:=gJ.set (fun p=> .inl (by simp [Nod.zero])) fun h1 h2=>absurd ⟨h1,h2⟩ h
theorem yE {t:Tre} {k:Nat} (x:Int) (h:ak t k=0):gJ held (t.set k (aQ x)) t:=gJ.set (fun p=> .inl (by
  unfold aQ
  split
  ·match p with
   | 0=>rfl
   | 1=>rfl
   | 2=>rfl
   | 3=>rfl
   | 4=>rfl
   | p+5=>rfl
  ·split
   ·simp
   ·simp [Nod.zero])) fun _ h2=>by rw[h]at h2;cases h2
theorem tE {t:Tre} {k:Nat} {hl:List Bool} (h:held k→ct hl k=true):gJ held (cj t k hl) t:=by
 unfold cj
 split
 ·exact gJ.set (fun _=> .inr rfl) fun _ h=>⟨h,rfl,rfl⟩
 ·rename_i hc
  exact oA fun⟨h1,h2⟩=>hc ⟨h2,.inr (h h1)⟩
theorem rD {t u:Tre} {p:ByteArray} {k:Int} (h:cZ t p k= .ok u):gJ held u t:=by
 unfold cZ at h
 split at h
 ·cases h
 ·rename_i d s hp
  obtain⟨ld,P⟩:=dz hp
  split at h
  ·cases h
  ·split at h
   ·cases h
   ·split at h
    ·cases h
    ·rename_i hf _
     cases h
     rcases free_spec P.may with h1 | ⟨h1,h2,h3⟩
     ·omega
     ·exact(yE k (by rw[rC];exact h3)).trans (gK _ _ _)
theorem wY {t u:Tre} {p:ByteArray} {hl:List Bool} (hh:∀k,held k→ct hl k=true) (h:dM t p hl= .ok u):gJ held u t:=by
 unfold dM at h
 split at h
 ·cases h
 ·split at h
  ·cases h
  ·split at h
   ·cases h
   ·cases h
    exact(tE (hh _)).trans (gK _ _ _)
theorem yF {t u:Tre} {p:ByteArray} (h:ff t p= .ok u):gJ held u t:=by
 unfold ff at h
 split at h
 ·cases h
 ·split at h
  ·cases h
  ·split at h
   ·cases h
   ·split at h
    ·cases h
    ·rename_i hk _
     cases h
     exact(oA (by rw[rC];rintro⟨_,h⟩;omega)).trans (gK _ _ _)
theorem AB {t u:Tre} {p q:ByteArray} (h:iC t p q= .ok u):gJ held u t:=by
 unfold iC at h
 split at h
 ·cases h
 ·split at h
  ·cases h
  ·split at h
   ·cases h
   ·split at h
    ·cases h
    ·split at h
     ·cases h
     ·rename_i i _ _ _ d s _ _ _
      cases h
      have e1:((aJ t d (bu (ag t d) ⟨s,(i:Int)⟩)).getD i default).an=(t.getD i default).an∧((aJ t d (bu (ag t d) ⟨s,(i:Int)⟩)).getD i default).size=(t.getD i default).size:=by
       unfold aJ
       rw[fC]
       split
       ·rename_i e;rw[e.1];exact⟨rfl,rfl⟩
       ·exact⟨rfl,rfl⟩
      refine(gJ.set (fun p=> .inr (by rw[e1.1])) fun _ h=>⟨?_,by rw[e1.2],by rw[e1.1]⟩).trans (gK _ _ _)
      rw[rC]at h;exact h
theorem AD {t:Tre} {d f i:Nat} {s r:ByteArray} {k:Int} {hl:List Bool} (hh:∀k,held k→ct hl k=true):gJ held (bM t d s i f r k hl) t:=by
 unfold bM
 split
 ·exact(tE (hh _)).trans ((gK _ _ _).trans (gK _ _ _))
 ·exact gK _ _ _
theorem wZ {t u:Tre} {p q:ByteArray} {hl:List Bool} (hh:∀k,held k→ct hl k=true) (h:cz t p q hl= .ok u):gJ held u t:=by
 unfold cz at h
 split at h
 ·cases h
 ·split at h
  ·cases h
  ·split at h
   ·cases h
   ·split at h
    ·cases h;exact gJ.refl _ t
    ·split at h
     ·cases h
     ·split at h
      ·cases h
      ·split at h
       ·cases h
       ·cases h
        exact(gK _ _ _).trans (AD hh)
theorem tF {t u:Tre} {i:Int} (hh:∀k:Nat,held k→(k:Int)≠i) (h:c9 t i= .ok u):gJ held u t:=by
 unfold c9 at h
 split at h
 ·split at h
  ·rename_i hc
   cases h
   exact oA fun⟨h1,_⟩=>hh _ h1 (by omega)
  ·cases h
 ·cases h
end
theorem tG {h:List Int} (ho:cY h=false) {k:Nat} (hk:k<12):ct (de h) k=decide ((k:Int)∈h):=by
 unfold ct de
 rw[if_neg (by rw[ho];decide),List.getD_eq_getElem?_getD,List.getElem?_eq_getElem (by simpa using hk)]
 simp
def o4 (m:bQ) (k:Nat):Prop:=(k:Int)∈m.h
structure OkH (m:bQ):Prop extends OkP m where
 file:∀k,o4 m k→ak m.t k=1
theorem OkH.lt {m:bQ} (h:OkH m) {k:Nat} (hk:o4 m k):k<12:=by
 have:=jC h.bW hk;omega
theorem OkH.ct {m:bQ} (h:OkH m) {k:Nat} (hk:o4 m k):ct (de m.h) k=true:=by
 rw[tG h.bW (h.lt hk)];exact decide_eq_true hk
theorem rE {m:bQ} {c:Cal} {u:Tre} (hO:OkH m) (h:cr m c= .ok u):gJ (o4 m) u m.t:=by
 have hh:∀k,o4 m k→Go.Proofs.YtoogangnldppaaaGreatDoor.ct (de m.h) k=true:=fun k hk=>hO.ct hk
 unfold cr at h
 repeat' split at h
 ·exact rD h
 ·exact rD h
 ·exact wY hh h
 ·exact yF h
 ·exact wZ hh h
 ·exact AB h
theorem AE {t:Tre} {p:ByteArray} {i:Nat} (h:b8 t p= .ok i):ak t i=1∨ak t i=2:=by
 have hF:=bP (kR h)
 by_cases hi:i=0
 ·subst hi;exact .inr hF.top
 ·obtain⟨ld,d,s,P,ha⟩:=DE h hi
  obtain⟨e,he,_,hn⟩:=nx (l:=ag t d) (s:=s) (by omega)
  have hk:=(hF.ent he).2.2.2.2.2
  rw[hn,ha]at hk
  have hk:ak t i≠0:=hk
  have:=fI (hF.at (uS h))
  unfold ak at hk ⊢
  omega
theorem yG (k:Nat) (t:Tre) (l:List Tod) (ss:List Int) (hk:k<t.length) (j:Nat):ak (ck k t l ss) j=ak t j:=by
 by_cases e:j=k
 ·subst e
  obtain⟨q,_,h2⟩:=nD j t l ss hk
  unfold ak;rw[h2]
 ·unfold ak;rw[wE k e]
theorem w7 {t:Tre} {k:Nat} {n:Nod} (h:n.kind=(t.getD k default).kind) (j:Nat):ak (t.set k n) j=ak t j:=by
 unfold ak
 rw[fC]
 split
 ·rename_i e;rw[e.1];exact h
 ·rfl
theorem yH {t u:Tre} {d i a:Int} {b:List UInt8} {l:List Tod} (h:cE t d i a b= .ok (u,l)) (j:Nat):ak u j=ak t j:=by
 unfold cE at h
 split at h
 ·cases h
 split at h
 ·cases h;rfl
 split at h
 ·cases h
 split at h
 ·cases h
 ·cases h;exact w7 (by rfl) j
theorem yI {t u:Tre} {i z:Int} {l:List Tod} (h:c5 t i z= .ok (u,l)) (j:Nat):ak u j=ak t j:=by
 unfold c5 at h
 split at h
 ·cases h
 split at h
 ·cases h
 ·cases h;exact w7 (by rfl) j
theorem yJ {m:bQ} {c:Cal} (hO:OkH m):∀k:Nat,(k:Int)∈(aK m c).h→ak (aK m c).t k=1:=by
 unfold aK
 cases hd:bH m c with
 | error e=>exact hO.file
 | ok d=>
   show ∀k:Nat,(k:Int)∈d.h→ak d.t k=1
   unfold bH at hd
   split at hd
   ·cases hn:cr m c with
    | error e=>rw[hn]at hd;cases hd
    | ok t=>
      rw[hn]at hd;cases hd
      exact fun k hk=>((rE hO hn).same k hk (hO.file k hk)).1
   split at hd
   ·unfold gr at hd
    split at hd
    ·cases hd
    rename_i i hf
    split at hd
    ·cases hd;exact hO.file
    split at hd
    ·cases hd
    split at hd
    ·cases hd;exact hO.file
    split at hd
    ·cases hd
    rename_i hk2
    split at hd
    ·cases hd
    ·rename_i ho
     cases hd
     intro k hk
     have hk:(k:Int)∈_:=hk
     unfold eV at ho
     split at ho
     ·cases ho
     split at ho
     ·cases ho
     ·cases ho
      rcases List.mem_or_eq_of_mem_set hk with h | h
      ·exact hO.file k h
      ·have e:k=i:=by omega
       subst e
       rcases AE hf with h1 | h1
       ·exact h1
       ·exact absurd h1 hk2
   split at hd
   ·unfold gU at hd
    split at hd
    ·cases hd
    ·rename_i h i hc
     obtain⟨ho0,_,hi12,ho,hl,_⟩:=iP hc
     have hsub:∀k:Nat,(k:Int)∈h→(k:Int)∈m.h:=by
      intro k hk
      rw[hl]at hk
      rcases List.mem_or_eq_of_mem_set hk with h | h
      ·exact h
      ·omega
     split at hd
     ·rename_i hcc
      cases hdr:c9 m.t i with
      | error e=>rw[hdr]at hd;cases hd
      | ok t=>
        rw[hdr]at hd;cases hd
        intro k hk
        have hk:(k:Int)∈h:=hk
        refine((tF (held:=fun k=>(k:Int)∈h) (fun j hj=> ?_) hdr).same k hk (hO.file k (hsub k hk))).1
        intro e
        have hj:=jC ho hj
        have h1:=hcc.2
        rw[show i.toNat=j by omega,tG ho (by omega)]at h1
        rename_i hj0
        exact absurd (hj0:(j:Int)∈h) (of_decide_eq_false h1)
     ·cases hd;exact fun k hk=>hO.file k (hsub k hk)
   split at hd
   ·unfold j5 at hd
    split at hd
    ·cases hd
    ·rename_i i hi
     split at hd
     ·cases hw:cE m.t m.data i c.at_ c.data with
      | error e=>rw[hw]at hd;cases hd
      | ok o=>obtain⟨u,l⟩:=o;rw[hw]at hd;cases hd;exact fun k hk=>by rw[show ak _ k=_ from yH hw k];exact hO.file k hk
     split at hd
     ·cases hw:c5 m.t i c.at_ with
      | error e=>rw[hw]at hd;cases hd
      | ok o=>obtain⟨u,l⟩:=o;rw[hw]at hd;cases hd;exact fun k hk=>by rw[show ak _ k=_ from yI hw k];exact hO.file k hk
     split at hd
     ·cases hd
     ·cases hd;exact hO.file
   split at hd
   ·cases hd;exact hO.file
   split at hd
   ·cases hd;exact hO.file
   ·cases hd
theorem OkH.step {m:bQ} {c:Cal} (hO:OkH m) (hs:m.seq+80≤1099511627776):OkH (doP m c):=by
 obtain⟨h1,_⟩:=hO.toOkP.step (c:=c) hs
 refine⟨h1,fun k hk=> ?_⟩
 have hT:=(nM (c:=c) hO.toOkP).1
 have h12:=(bP hT.may).len
 show ak (ck _ _ _ _) k=1
 rw[yG _ _ _ _ (by have:=hT.k12;omega)]
 exact yJ hO k hk
theorem OkH.nN {m:bQ} (h:OkH m):OkH (eC m):=by
 refine⟨h.toOkP.nN,fun k hk=> ?_⟩
 unfold o4 eC at hk
 have hk:(k:Int)∈iY:=hk
 unfold iY at hk
 simp at hk
theorem OkH.new {d:Int} (h1:1≤d) (h2:d≤60):OkH (r6 d):=by
 refine⟨OkP.new h1 h2,fun k hk=> ?_⟩
 have hk:(k:Int)∈iY:=hk
 unfold iY at hk
 simp at hk
theorem Ln (x:ByteArray) (a b:Nat):bl (x.extract a b)=((bl x).take b).drop a:=by
 unfold bl
 rw[ByteArray.data_extract,Array.toList_extract]
 simp [List.take_drop]
 by_cases h:a≤b
 ·rw[show a+(b-a)=b by omega]
 ·rw[List.drop_of_length_le (by simp;omega),List.drop_of_length_le (by simp;omega)]
theorem AF {l:List UInt8} {i:Nat} (h:i<l.length):l.drop i=l.getD i 0::l.drop (i+1):=by
 rw[List.getD_eq_getElem?_getD,List.getElem?_eq_getElem h]
 exact(List.getElem_cons_drop (h:=h)).symm
structure DM (r:List UInt8) (names:List ByteArray) (f i:Nat):Prop where
 may:names.all cG=true
 le:f≤i
 cut:(i≤r.length∧(aP r).map ba=names++(aP (r.drop f)).map ba∧47∉(r.drop f).take (i-f))∨(i=r.length+1∧(aP r).map ba=names)
theorem F5 {r:List UInt8} {names:List ByteArray} {f:Nat} (h:DM r names f r.length):(aP r).map ba=names++ [ba (r.drop f)]:=by
 rcases h.cut with ⟨_,h1,h2⟩ | ⟨h1,_⟩
 ·rw[List.take_of_length_le (by simp)]at h2
  rw[h1,fm h2];rfl
 ·omega
theorem zE {r:List UInt8} {names:List ByteArray} {f i:Nat} (h:DM r names f i) (hi:i<r.length) (h47:r.getD i 0=47):(aP r).map ba=names++ [ba ((r.take i).drop f)]++(aP (r.drop (i+1))).map ba:=by
 have hle:=h.le
 rcases h.cut with ⟨_,h1,h2⟩ | ⟨h1,_⟩
 ·have e1:r.drop f=(r.take i).drop f++47::r.drop (i+1):=by
   rw[←h47, ←AF hi, ←List.drop_append_of_le_length (by simp;omega),List.take_append_drop]
  have e2:(r.take i).drop f=(r.drop f).take (i-f):=by rw[List.drop_take]
  rw[h1,e1,iu,fm (by rw[e2];exact h2),List.map_append, ←List.append_assoc];rfl
 ·omega
theorem w8 {s:ByteArray} {r:List UInt8} (h:bl s=47::r) (hs:s.size≤60) (hr:r≠ []):bF s=if((aP r).map ba).all cG then some ((aP r).map ba)else none:=by
 unfold bF
 rw[h]
 dsimp only
 rw[if_pos ⟨rfl,hs⟩,if_neg hr]
theorem kS {s:ByteArray} {V:View} (hs:s.size≤9223372036854775807):af Tryz.prog 131 ⟨[.string s]⟩ V fun r V' =>xZ V' (bF s) r∧V.Le V' :=by
 refine Kf ?_
 unfold B0
 have hlen:=lX s
 refine ai (fun q V' =>V' =V∧((q.1=true∧bF s=none)∨(q.1=false∧s.size≤60∧∃r,bl s=47::r))) (aa (fun hb=>⟨rfl,.inl ⟨rfl, ?_⟩⟩) (fun hb=> ?_)) ?_
 ·cases hsp:bF s with
  | none=>rfl
  | some l=>
    have h1:=(dF hsp).1
    have h2:=(dF hsp).2.2
    have h3:=congrArg List.length h2
    rw[hlen,List.length_cons]at h3
    rw[decide_eq_false (by omega),decide_eq_false (by omega)]at hb
    cases hb
 ·have h60:¬60<(s.size:Int):=fun h=>by rw[decide_eq_true h]at hb;cases hb
  rw[decide_eq_false h60]at hb
  have h1:¬(s.size:Int)<1:=fun h=>by rw[decide_eq_true h]at hb;cases hb
  refine⟨by omega,by omega,rfl, ?_⟩
  cases hbl:bl s with
  | nil=>rw[hbl]at hlen;simp at hlen;omega
  | cons c r=>
    have e:(Array.toList s.data).getD (Int.toNat 0) 0=c:=by
     have:Array.toList s.data=c::r:=hbl
     rw[this];rfl
    rw[e]
    by_cases hc:(c.toNat:Int)=47
    ·right
     have:c=47:=UInt8.toNat_inj.1 (by show c.toNat=47;omega)
     subst this
     exact⟨by simp,by omega,r,rfl⟩
    ·left
     refine⟨by simp [hc], ?_⟩
     unfold bF;rw[hbl];dsimp only
     rw[if_neg]
     rintro⟨rfl,_⟩
     exact hc rfl
 rintro⟨q,⟨⟩⟩ V1 ⟨rfl,hq⟩
 dsimp only [unc]at*
 refine aa (fun hb=> ?_) (fun hb=> ?_)
 ·rcases hq with ⟨_,h⟩ | ⟨h,_⟩
  ·rw[h];exact⟨⟨⟨none,0,0⟩,7,rfl,rfl,rfl⟩,View.Le.refl _⟩
  ·rw[h]at hb;cases hb
 obtain⟨h60,r,hr⟩:s.size≤60∧∃r,bl s=47::r:=by
  rcases hq with ⟨h,_⟩ | ⟨_,h⟩
  ·rw[h]at hb;cases hb
  ·exact h
 rw[hr,List.length_cons]at hlen
 refine aa (fun he=> ?_) (fun he=> ?_)
 ·have he:s=ba [47]:=of_decide_eq_true he
  rw[he,show bF (ba [47])=some [] by decide]
  exact⟨⟨⟨none,0,0⟩,0,rfl,rfl,SlR.nil _ _ _⟩,View.Le.refl _⟩
 have hrne:r≠ []:=by
  rintro rfl
  apply of_decide_eq_false he
  exact ql (by rw[hr])
 have hsp:=w8 hr h60 hrne
 have hbad:∀ {names:List ByteArray} {x:ByteArray} {rest:List ByteArray},(aP r).map ba=names++ [x]++rest→cG x=false→bF s=none:=by
  intro names x rest h1 h2
  rw[hsp,h1,if_neg]
  simp [h2]
 refine sJ (k:= .sl) (l:= .int .i64) (n:= .int .i64) (fun(x:Sl) (f i:Int) V' =>∃(fn jn:Nat) (names:List ByteArray) (cs:List Value),f=(fn:Int)+1∧i=(jn:Int)+1∧DM r names fn jn∧names.length≤jn∧Buf V' x 9 (Rep.sz ByteArray) cs∧aR (V'.minus x) cs names∧V1.Le (V'.minus x)) (fun _ _ (i:Int) _=>s.size+2-i.toNat)
  ⟨0,0,[],[],rfl,rfl,⟨rfl,Nat.le_refl _,.inl ⟨Nat.zero_le _,rfl,by simp⟩⟩,Nat.le_refl _,Buf.nil _ _ _,rfl,View.Le.refl _⟩ ?_
 rintro(x:Sl) (f:Int) (i:Int) V2 ⟨fn,jn,names,cs,rfl,rfl,hC,hnl,hb2,hr2,hV2⟩
 have hle:=hC.le
 refine aa (fun hlt=> ?_) (fun hge=> ?_)
 ·have hlt:jn≤r.length:=by have:=of_decide_eq_true hlt;omega
  have hcut:47∉(r.drop fn).take (jn-fn)∧(aP r).map ba=names++(aP (r.drop fn)).map ba:=by
   rcases hC.cut with ⟨_,h1,h2⟩ | ⟨h1,_⟩
   ·exact⟨h2,h1⟩
   ·omega
  refine ai (fun q V' =>∃(names:List ByteArray) (cs:List Value) (fn' :Nat),q.2.1=(fn' :Int)+1∧DM r names fn' (jn+1)∧names.length≤jn+1∧Buf V' q.1 9 (Rep.sz ByteArray) cs∧aR (V'.minus q.1) cs names∧V1.Le (V'.minus q.1)) ?_ ?_
  ·refine ai (fun q V' =>V' =V2∧q.1=(decide (jn<r.length)&& !decide (r.getD jn 0=47))) (aa (fun hs1=> ?_) (fun hs1=>⟨rfl, ?_⟩)) ?_
   ·have hs1:=of_decide_eq_true hs1
    refine⟨by omega,by omega,rfl, ?_⟩
    have e:(Array.toList s.data).getD (Int.toNat ((jn:Int)+1)) 0=r.getD jn 0:=by
     have h1:Array.toList s.data=47::r:=hr
     rw[h1,show Int.toNat ((jn:Int)+1)=jn+1 by omega];rfl
    rw[e,decide_eq_true (show jn<r.length by omega),Bool.true_and]
    have e2:decide (((r.getD jn 0).toNat:Int)=47)=decide (r.getD jn 0=47):=decide_eq_decide.2 ⟨fun h=>(UInt8.toNat_inj (a:=r.getD jn 0) (b:=47)).1 (by show(r.getD jn 0).toNat=47;omega),fun h=>by rw[h];rfl⟩
    show(!decide (((r.getD jn 0).toNat:Int)=47))=_
    rw[e2]
   ·have hs1:=of_decide_eq_false hs1
    rw[decide_eq_false (show ¬jn<r.length by omega)];rfl
   rintro⟨q,⟨⟩⟩ V3 ⟨rfl,hq3⟩
   dsimp only [unc]at*
   refine aa (fun hq1=> ?_) (fun hq1=> ?_)
   ·rw[hq3]at hq1
    simp only [Bool.and_eq_true,decide_eq_true_eq,Bool.not_eq_true',decide_eq_false_iff_not]at hq1
    refine⟨names,cs,fn,rfl,⟨hC.may,by omega,.inl ⟨by omega,hcut.2, ?_⟩⟩,by omega,hb2,hr2,hV2⟩
    rw[show jn+1-fn=(jn-fn)+1 by omega,List.take_add_one]
    intro hm
    rcases List.mem_append.1 hm with hm | hm
    ·exact hcut.1 hm
    ·rw[List.getElem?_drop,show fn+(jn-fn)=jn by omega,List.getElem?_eq_getElem hq1.1]at hm
     apply hq1.2
     rw[List.getD_eq_getElem?_getD,List.getElem?_eq_getElem hq1.1]
     have hm:47=r[jn]:=by simpa using hm
     exact hm.symm
   ·have hseg:bl (s.extract (Int.toNat ((fn:Int)+1)) (Int.toNat ((jn:Int)+1)))=(r.take jn).drop fn:=by
     rw[Ln,hr,show Int.toNat ((fn:Int)+1)=fn+1 by omega,show Int.toNat ((jn:Int)+1)=jn+1 by omega];rfl
    have hsegE:s.extract (Int.toNat ((fn:Int)+1)) (Int.toNat ((jn:Int)+1))=ba ((r.take jn).drop fn):=ql hseg
    rw[hsegE]
    have hssz:(ba ((r.take jn).drop fn)).size≤9223372036854775807:=by rw[eX,List.length_drop,List.length_take];omega
    obtain⟨rest,hall,hnext⟩:∃rest,(aP r).map ba=names++ [ba ((r.take jn).drop fn)]++rest∧(cG (ba ((r.take jn).drop fn))=true→DM r (names++ [ba ((r.take jn).drop fn)]) (jn+1) (jn+1)):=by
     have hmay:cG (ba ((r.take jn).drop fn))=true→(names++ [ba ((r.take jn).drop fn)]).all cG=true:=fun hm=>by
      rw[List.all_append,hC.may];simp [hm]
     by_cases hj:jn<r.length
     ·have h47:r.getD jn 0=47:=by
       rw[hq3,decide_eq_true hj,Bool.true_and]at hq1
       exact of_decide_eq_true (aD hq1)
      exact⟨_,zE hC hj h47,fun hm=>⟨hmay hm,Nat.le_refl _,.inl ⟨by omega,zE hC hj h47,by simp⟩⟩⟩
     ·have hj:jn=r.length:=by omega
      subst hj
      have:=F5 hC
      rw[List.take_length]
      exact⟨[],by rw[this];simp,fun hm=>⟨by rw[List.take_length]at hmay;exact hmay hm,Nat.le_refl _,.inr ⟨rfl,this⟩⟩⟩
    refine⟨by omega,by omega,by omega,(jN hssz).mono ?_⟩
    rintro r4 V4 ⟨rfl,rfl⟩
    refine⟨_,rfl,aa (fun hm=> ?_) (fun hm=>⟨by omega,by omega,by omega,fun r5 hr5=> ?_⟩)⟩
    ·rw[hbad hall (aM hm)]
     exact⟨⟨⟨none,0,0⟩,7,rfl,rfl,rfl⟩,hV2.trans (View.aj _ _)⟩
    ·have hxn:=hb2.n_eq (α:=ByteArray) hr2
     refine pn (α:=ByteArray) (d:=ba ((r.take jn).drop fn)) rfl hb2 hr2 ⟨rfl,hssz⟩ hV2 hr5 rfl (by show(x.n+1)*16≤_;omega) (by show x.n+1≤_;omega) fun s6 V6 cs6 g1 g2 g3=>⟨au (by omega) (by omega),names++ [ba ((r.take jn).drop fn)],cs6,jn+1,by show(jn:Int)+1+1=((jn+1:Nat):Int)+1;omega,hnext (aD hm),by rw[List.length_append];show names.length+1≤jn+1;omega,g1,g2,g3⟩
  ·rintro⟨q1,q2,⟨⟩⟩ V3 ⟨names',cs',fn',h1,h2,h3,h4,h5,h6⟩
   dsimp only [unc]at*
   refine⟨au (by omega) (by omega),⟨fn',jn+1,names',cs',h1,by omega,h2,h3,h4,h5,h6⟩,by omega⟩
 ·have hge:r.length<jn:=by have:=of_decide_eq_false hge;omega
  have hfin:jn=r.length+1∧(aP r).map ba=names:=by
   rcases hC.cut with ⟨h,_⟩ | h
   ·omega
   ·exact h
  rw[hsp,hfin.2,if_pos hC.may]
  exact⟨⟨x,0,rfl,rfl,hb2.slR hr2 (View.aj _ _)⟩,hV2.trans (View.aj _ _)⟩
def fP (l:List ByteArray):List UInt8:=l.flatMap fun n=>47::bl n
theorem lB:∀ {l:List ByteArray},l≠ []→47::Lib.join (l.map bl) [47]=fP l
 | [],h=>absurd rfl h
 | [x],_=>by
   simp [fP,Lib.join_cons]
   rfl
 | x::y::l,_=>by
   have ih:=lB (l:=y::l) (by simp)
   rw[List.map_cons,List.map_cons,lY, ←List.map_cons,ih]
   simp [fP]
theorem AG {l:List ByteArray} (hl:l≠ []):iw l=if l.all cG=true∧(fP l).length≤60 then ba (fP l)else ba []:=by
 unfold iw
 rw[lB hl]
 by_cases h:l.all cG=true∧(fP l).length≤60
 ·rw[if_pos h,if_pos]
  have:=oQ h.1 (by have:=h.2;rw[←lB hl,List.length_cons]at this;omega)
  rw[lB hl]at this;exact this
 ·rw[if_neg h,if_neg]
  intro hs
  obtain⟨h1,h2,_⟩:=dF hs
  exact h ⟨h2,by rw[eX]at h1;exact h1⟩
theorem oB:∀ {l:List ByteArray},l.all cG=true→2*l.length≤(fP l).length∧(fP l).length≤9*l.length
 | [],_=>by simp [fP]
 | x::l,h=>by
   rw[List.all_cons,Bool.and_eq_true]at h
   have ih:=oB h.2
   have hx:=k6 h.1
   have e:fP (x::l)=(47::bl x)++fP l:=rfl
   rw[e]
   simp only [List.length_append,List.length_cons,lX];omega
theorem yK (l:List ByteArray) (x:ByteArray):fP (l++ [x])=fP l++47::bl x:=by simp [fP]
theorem yL {x:Sl} {l:List ByteArray} {V:View} (h:SlR V x l):af Tryz.prog 182 ⟨[.slice x.a x.n x.c]⟩ V fun r V' =>r= .string (iw l)∧V' =V:=by
 refine K1 ?_
 unfold CN
 have hn:=h.n
 refine aa (fun h0=> ?_) (fun h0=> ?_)
 ·have:l= []:=List.length_eq_zero_iff.1 (by have:=of_decide_eq_true h0;omega)
  subst this
  exact⟨rfl,rfl⟩
 have hl:l≠ []:=fun e=>by subst e;have:=of_decide_eq_false h0;simp at hn;omega
 rw[AG hl]
 refine di (k:= .str) (l:= .int .i64) (fun(s:ByteArray) (j:Int) V' =>V' =V∧∃i:Nat,j=i∧i≤l.length∧i≤61∧(l.take i).all cG=true∧s=ba (fP (l.take i))) (fun _ (j:Int) _=>l.length-j.toNat) ⟨rfl,0,rfl,by omega,by omega,rfl,rfl⟩ ?_
 rintro(s:ByteArray) (j:Int) V1 ⟨rfl,i,rfl,hi,h61,hm,rfl⟩
 have hf:=oB hm
 rw[List.length_take]at hf
 refine aa (fun hlt=> ?_) (fun hge=> ?_)
 ·have hlt:i<l.length:=by have:=of_decide_eq_true hlt;omega
  obtain⟨ad,ha,hc,hsz⟩:=h.Aj hlt
  have htk:l.take (i+1)=l.take i++ [l[i]]:=by rw[List.take_add_one,List.getElem?_eq_getElem hlt];rfl
  refine⟨by omega,by omega,ad,ha,_,hc,(jN hsz).mono ?_⟩
  rintro r V2 ⟨rfl,rfl⟩
  refine⟨_,rfl,aa (fun hb=>⟨?_,rfl⟩) (fun hb=> ?_)⟩
  ·suffices hcc:¬(l.all cG=true∧(fP l).length≤60) by rw[if_neg hcc];rfl
   rintro⟨h1,h2⟩
   have hmi:cG l[i]=true:=List.all_eq_true.1 h1 _ (List.getElem_mem hlt)
   rw[hmi]at hb
   have h3:=(oB h1).1
   have:=of_decide_eq_true (show decide (60<(i:Int))=true from hb)
   omega
  ·have hmi:cG l[i]=true:=by
    cases hq:cG l[i]with
    | true=>rfl
    | false=>rw[hq]at hb;cases hb
   rw[hmi]at hb
   have h60:=of_decide_eq_false (show decide (60<(i:Int))=false from hb)
   have hi8:=k6 hmi
   have e1:(ByteArray.mk #[47]++l[i]).size=1+l[i].size:=by rw[ByteArray.size_append];rfl
   refine⟨by omega,by rw[e1,eX];omega,au (by omega) (by omega),⟨rfl,i+1,by omega,by omega,by omega, ?_, ?_⟩,by omega⟩
   ·rw[htk,List.all_append,hm];simp [hmi]
   ·rw[htk,yK]
    apply ql
    show bl (ba (fP (l.take i))++(ByteArray.mk #[47]++l[i]))=_
    rw[n7,n7];rfl
 ·have hge:i=l.length:=by have:=of_decide_eq_false hge;omega
  subst hge
  rw[List.take_length]at hm ⊢
  have hsz:(ba (fP l)).size=(fP l).length:=eX _
  refine aa (fun hb=>⟨?_,rfl⟩) (fun hb=>⟨?_,rfl⟩)
  ·have:=of_decide_eq_true hb
   rw[if_neg (fun h=>by have:=h.2;omega)];rfl
  ·have:=of_decide_eq_false hb
   rw[if_pos ⟨hm,by omega⟩]
theorem yM {s:ByteArray} {V:View} (hs:s.size≤9223372036854775807):af Tryz.prog 164 ⟨[.string s]⟩ V fun r V' =>r= .tuple ⟨[.string (dX s).1,.string (dX s).2.1,.int .i64 (dX s).2.2]⟩∧V.Le V' :=by
 refine KL ?_
 unfold Cx
 refine(kS hs).mono ?_
 rintro r V1 ⟨⟨x,e,rfl,hx⟩,hV1⟩
 refine⟨x,e,rfl, ?_⟩
 cases hsp:bF s with
 | none=>
   rw[hsp]at hx
   obtain⟨rfl,rfl⟩:=hx
   have:dX s=(ba [],ba [],7):=by unfold dX;rw[hsp]
   rw[this]
   exact aa (fun _=>⟨rfl,hV1⟩) (fun h=>absurd h (by decide))
 | some l=>
   rw[hsp]at hx
   obtain⟨rfl,hx⟩:=hx
   have hn:=hx.n;have hc:=hx.c;have hlim:=hx.lim
   refine aa (fun h=>absurd h (by decide)) (fun _=> ?_)
   rcases gG l with rfl | ⟨m,n,rfl⟩
   ·have:dX s=(ba [],ba [],18):=by unfold dX;rw[hsp];rfl
    rw[this]
    exact aa (fun _=>⟨rfl,hV1⟩) (fun h=>absurd (of_decide_eq_false h) (by rw[hn];simp))
   ·rw[pL hsp]
    rw[List.length_append]at hn
    have hn:x.n=m.length+1:=hn
    refine aa (fun h=>absurd (of_decide_eq_true h) (by omega)) (fun _=> ?_)
    obtain⟨ad,ha,hcell,hsz⟩:=hx.Aj (i:=m.length) (by simp)
    have e1:(x.n:Int)-1=(m.length:Int):=by omega
    rw[e1]
    have htk:=hx.take (j:=m.length) (by simp)
    rw[List.take_left]at htk
    have esl:(⟨if x.c=0 then x.a else x.a.map fun q=>q.add 0,Int.toNat (m.length:Int)-0,x.c-0⟩:Sl)=⟨x.a,m.length,x.c⟩:=by
     rw[cu];split<;>rfl
    have hsl:SlR V1 ⟨if x.c=0 then x.a else x.a.map fun q=>q.add 0,Int.toNat (m.length:Int)-0,x.c-0⟩ m:=by rw[esl];exact htk
    refine⟨trivial,V1,View.Le.refl _,au (by omega) (by omega),by omega,by omega,by omega,au (by omega) (by omega),by omega,by omega,ad,ha,_,hcell,(yL hsl).mono ?_⟩
    rintro r V2 ⟨rfl,rfl⟩
    refine⟨_,rfl,View.Le.refl _, ?_,hV1⟩
    congr 4
    simp
theorem w9 {s x:Sl} {t:Tre} {l:List ByteArray} {V:View} (h:SlR V s t) (k:SlR V x l) (h12:t.length=12) (hnode:∀n∈t,∀e∈n.az,1≤e.node∧e.node<12):af Tryz.prog 132 ⟨[aZ s,.slice x.a x.n x.c]⟩ V fun r V' =>r=we (goF t 0 l)∧V' =V:=by
 refine Kg ?_
 unfold B1
 have hn:=h.n;have kn:=k.n;have klim:=k.lim
 refine fun _=>di (k:= .int .i64) (l:= .int .i64) (fun(y:Int) (j:Int) V' =>∃q i:Nat,y=q∧j=i∧q<12∧i≤l.length∧goF t 0 l=goF t q (l.drop i)∧V' =V) (fun _ (j:Int) _=>l.length-j.toNat) ⟨0,0,rfl,rfl,by omega,by omega,rfl,rfl⟩ ?_
 rintro(y:Int) (j:Int) V1 ⟨q,i,rfl,rfl,hq,hi,hG,rfl⟩
 refine aa (fun hlt=> ?_) (fun hge=> ?_)
 ·have hlt:i<l.length:=by have:=of_decide_eq_true hlt;omega
  obtain⟨ad,ha,hc,hsz⟩:=k.Aj hlt
  obtain⟨ad2,sq,en,ha2,hc2,hN⟩:=h.bO (i:=q) (by omega)
  have hd:l.drop i=l[i]::l.drop (i+1):=(List.getElem_cons_drop (h:=hlt)).symm
  rw[hd,ez]at hG
  refine⟨by omega,by omega,ad,ha,_,hc,by omega,by omega,ad2,ha2,_,av hc2 0 rfl,aa (fun hb=> ?_) (fun hb=>⟨by omega,by omega,ad2,ha2,en,av hc2 4 rfl,(gF hN.az).mono ?_⟩)⟩
  ·have hb:¬ak t q=2:=of_decide_eq_false (aM hb)
   rw[if_neg hb]at hG
   rw[hG];exact⟨rfl,rfl⟩
  ·have hb:ak t q=2:=of_decide_eq_true (aD hb)
   rw[if_pos hb]at hG
   rintro r V2 ⟨rfl,rfl⟩
   have hr:=lg (s:=l[i]) (hnode _ (jx (t:=t) (i:=q) (by omega)))
   refine⟨_,rfl,aa (fun h0=> ?_) (fun h0=> ?_)⟩
   ·have h0:=of_decide_eq_true h0
    rw[if_pos (show atI (ag t q) l[i]<0 from h0)]at hG
    rw[hG];exact⟨rfl,rfl⟩
   ·have h0:=of_decide_eq_false h0
    rw[if_neg (show ¬atI (ag t q) l[i]<0 from h0)]at hG
    exact⟨au (by omega) (by omega),⟨(atI (ag t q) l[i]).toNat,i+1,by unfold ag;omega,by omega,by unfold ag;omega,by omega,hG,rfl⟩,by omega⟩
 ·have hge:i=l.length:=by have:=of_decide_eq_false hge;omega
  subst hge
  rw[List.drop_length]at hG
  rw[hG];exact⟨rfl,rfl⟩
theorem rF {s:Sl} {t:Tre} {p:ByteArray} {V:View} (h:SlR V s t) (hp:p.size≤9223372036854775807):af Tryz.prog 84 ⟨[aZ s,.string p]⟩ V fun r V' =>r=we (b8 t p)∧V.Le V' :=by
 refine MK ?_
 unfold Hx
 refine fun _=>(dK h).mono ?_
 rintro r V1 ⟨rfl,hV1⟩
 unfold b8
 refine⟨_,rfl,aa (fun hb=>⟨by rw[if_neg (by rw[aM hb];decide)];rfl,hV1⟩) (fun hb=> ?_)⟩
 have hM:=aD hb
 rw[if_pos hM]
 refine(kS hp).mono ?_
 rintro r V2 ⟨⟨x,e,rfl,hx⟩,hV2⟩
 have hV02:=hV1.trans hV2
 refine⟨x,e,rfl, ?_⟩
 cases hS:bF p with
 | none=>
   rw[hS]at hx
   obtain⟨rfl,rfl⟩:=hx
   exact aa (fun _=>⟨rfl,hV02⟩) (fun h=>absurd h (by decide))
 | some l=>
   rw[hS]at hx
   obtain⟨rfl,hx⟩:=hx
   refine aa (fun h=>absurd h (by decide)) (fun _=>(w9 (h.mono hV02) hx (bq hM).1 (fq hM)).mono ?_)
   rintro r V3 ⟨rfl,rfl⟩
   show ∃_ _,we _=_∧_
   cases hG:goF t 0 l with
   | ok q=>exact⟨_,_,rfl,by simp only [hG];rfl,hV02⟩
   | error e=>exact⟨_,_,rfl,by simp only [hG];rfl,hV02⟩
theorem eL {s:Sl} {t:Tre} {p:ByteArray} {V:View} (h:SlR V s t) (hp:p.size≤9223372036854775807):af Tryz.prog 125 ⟨[aZ s,.string p]⟩ V fun r V' =>r=FN (aH t p)∧V.Le V' :=by
 refine J9 ?_
 unfold BU
 refine fun _=>(dK h).mono ?_
 rintro r V1 ⟨rfl,hV1⟩
 refine⟨_,rfl,aa (fun hb=>⟨by unfold aH;rw[if_neg (by rw[aM hb];decide)];rfl,hV1⟩) (fun hb=> ?_)⟩
 have hM:=aD hb
 have h12:=(bq hM).1
 have hn:=h.n
 refine(yM hp).mono ?_
 rintro r V2 ⟨rfl,hV2⟩
 have q2:=hV1.trans hV2
 refine⟨_,_,_,rfl,aa (fun hc=>⟨?_,q2⟩) (fun hc=> ?_)⟩
 ·have hc:¬(dX p).2.2=0:=of_decide_eq_false (aM hc)
  unfold aH;rw[if_pos hM,if_neg hc];rfl
 have hc:(dX p).2.2=0:=of_decide_eq_true (aD hc)
 have hsp:∃l n,bF p=some (l++ [n]):=by
  unfold dX at hc
  split at hc
  ·exact absurd hc (by decide)
  ·rename_i l hl
   rcases gG l with rfl | ⟨m,n,rfl⟩
   ·simp at hc
   ·exact⟨m,n,hl⟩
 obtain⟨l,n,hl⟩:=hsp
 have hlast:=pL hl
 have hsl:=mu hl
 have hE:aH t p=match goF t 0 l with
   | .error e=> .error e
   | .ok i=>if ak t i=2 then .ok (i,n)else .error 11:=by
  unfold aH
  rw[if_pos hM,if_pos hc,hlast]
  dsimp only
  rw[pM hM hsl]<;>rfl
 rw[hlast]
 dsimp only
 refine(kS (s:=iw l) (by have:=(dF hsl).1;omega)).mono ?_
 rintro r V3 ⟨⟨x,e,rfl,hx⟩,hV3⟩
 rw[hsl]at hx
 obtain⟨rfl,hx⟩:=hx
 have q3:=q2.trans hV3
 refine⟨x,_,rfl,(w9 (h.mono q3) hx h12 (fq hM)).mono ?_⟩
 rintro r V4 ⟨rfl,rfl⟩
 cases hG:goF t 0 l with
 | error e=>
   rw[hG]at hE
   have hE:aH t p= .error e:=hE
   have he:=bS hE
   exact⟨_,_,rfl,aa (fun _=>⟨by rw[hE];rfl,q3⟩) (fun h=>absurd (of_decide_eq_true (aD h)) he)⟩
 | ok d=>
   rw[hG]at hE
   have hE:aH t p=if ak t d=2 then .ok (d,n)else .error 11:=hE
   have hd:=lp h12 (fq hM) (by omega) hG
   obtain⟨ad,sq,en,ha,hcc,hN⟩:=(h.mono q3).bO (i:=d) (by omega)
   refine⟨_,_,rfl,aa (fun h=>absurd h (by decide)) (fun _=>⟨by omega,by omega,ad,ha,_,av hcc 0 rfl,aa (fun hk=>⟨?_,q3⟩) (fun hk=>⟨?_,q3⟩)⟩)⟩
   ·rw[hE,if_neg (show ¬ak t d=2 from of_decide_eq_false (aM hk))];rfl
   ·rw[hE,if_pos (show ak t d=2 from of_decide_eq_true (aD hk))];rfl
theorem yN {s:Sl} {t:Tre} {V:View} (h:SlR V s t):af Tryz.prog 163 ⟨[aZ s]⟩ V fun r V' =>r= .int .i64 (bE t)∧V.Le V' :=by
 refine KK ?_
 unfold Cw
 refine fun _=>(dK h).mono ?_
 rintro r V1 ⟨rfl,hV1⟩
 unfold bE
 refine⟨_,rfl,aa (fun hb=>⟨by rw[if_neg (by rw[aM hb];decide)],hV1⟩) (fun hb=> ?_)⟩
 rw[if_pos (aD hb)]
 have hn:=h.n;have hlim:=h.lim
 refine bh (k:= .int .i64) (fun(x:Int) V' =>V' =V1∧0≤x∧x≤s.n∧∀j (hj:j<t.length),(j:Int)<x→decide (t[j].kind=0)=false) (fun(x:Int) _=>s.n-x.toNat) ⟨rfl,by omega,by omega,fun j _ hj=>by omega⟩ ?_
 rintro(x:Int) V2 ⟨rfl,h0,h1,h2⟩
 refine aa (fun hlt=> ?_) (fun hge=> ?_)
 ·have hlt:x<s.n:=by simpa using hlt
  obtain⟨ad,sq,en,hx,ha,hc,hN⟩:=(h.mono hV1).nod h0 hlt
  refine⟨h0,hlt,ad,ha,_,_,_,sq,en,hc,fun _=>aa (fun hk=>⟨?_,hV1⟩) (fun hk=>⟨au (by omega) (by omega),⟨rfl,by omega,by omega,fun j hj hjx=> ?_⟩,by omega⟩)⟩
  ·rw[eu (fun n:Nod=>decide (n.kind=0)) t x.toNat hx (fun j hj=>h2 j (by omega) (by omega)) hk]
   congr 1;omega
  ·by_cases e:(j:Int)<x
   ·exact h2 j hj e
   ·have:j=x.toNat:=by omega
    subst this;exact hk
 ·have hge:¬x<s.n:=by simpa using hge
  refine⟨?_,hV1⟩
  rw[fk (fun n:Nod=>decide (n.kind=0)) t fun y hy=> ?_]
  obtain⟨j,hj,rfl⟩:=List.getElem_of_mem hy
  exact h2 j hj (by omega)
theorem uU {y:Sl} {held:List Bool} {i:Nat} {V:View} (h:SlR V y held):af Tryz.prog 165 ⟨[.slice y.a y.n y.c,.int .i64 i]⟩ V fun r V' =>r= .bool (ct held i)∧V' =V:=by
 refine KM ?_
 unfold Cy
 have hn:=h.n
 refine ai (fun q V' =>V' =V∧q.1=ct held i) (aa (fun hb=> ?_) (fun hb=>⟨rfl, ?_⟩)) ?_
 ·rw[decide_eq_true (show(0:Int)≤i by omega)]at hb
  have hlt:=of_decide_eq_true (show decide ((i:Int)<y.n)=true from hb)
  obtain⟨ad3,hx3,ha3,hc3⟩:=h.bool (x:=(i:Int)) (by omega) (by omega)
  refine⟨by omega,by omega,ad3,ha3,_,hc3,rfl, ?_⟩
  unfold ct
  have e:((i:Int)).toNat=i:=by omega
  rw[List.getD_eq_getElem?_getD,List.getElem?_eq_getElem (by omega)]
  simp only [e];rfl
 ·rw[decide_eq_true (show(0:Int)≤i by omega)]at hb
  have hge:=of_decide_eq_false (show decide ((i:Int)<y.n)=false from hb)
  unfold ct
  rw[List.getD_eq_getElem?_getD,List.getElem?_eq_none (by omega)];rfl
 ·rintro⟨q,⟨⟩⟩ V1 ⟨rfl,hq⟩
  dsimp only [unc]at*
  exact⟨by rw[hq],rfl⟩
theorem cD.call {P:Program} {f:FuncId} {args:Array Value} {V0 V:View} {x:Sl} {t:Tre} {K:Value→View→Prop} (h:cD V0 V x t) (hc:af P f args (V.minus x) fun r U' =>K r U' ∧(V.minus x).Le U'):
  af P f args V fun r V' =>∃U',K r U' ∧U'.Le (V'.minus x)∧V.Le V' ∧cD V0 V' x t:=by
 obtain⟨cs,hB,_,_⟩:=id h
 refine(af.iN hB hc).mono ?_
 rintro r V' ⟨U',h1,_,h2,h3⟩
 exact⟨U',h1,h2,h3,h.mono h3⟩
def mK (V0 V:View) (x:Sl) (l:List Ent):Prop:=∃cs,Buf V x 85 (Rep.sz Ent) cs∧aR (V.minus x) cs l∧V0.Le (V.minus x)
theorem mK.nil (V:View):mK V V ⟨none,0,0⟩ []:=⟨[],Buf.nil _ _ _,rfl,View.Le.refl _⟩
theorem mK.slR {V0 V:View} {x:Sl} {l:List Ent} (h:mK V0 V x l):SlR V x l∧V0.Le V:=by
 obtain⟨cs,h1,h2,h3⟩:=h
 exact⟨h1.slR h2 (View.aj _ _),h3.trans (View.aj _ _)⟩
theorem mK.row {V0 V:View} {x y:Sl} {l m:List Ent} {C:Sl→View→Prop} (h:mK V0 V x l) (hy:SlR V0 y m) (hlen:l.length+m.length≤1000) (hC:∀s V',mK V0 V' s (l++m)→C s V'):apV V 85 2 24 [.string (ba []),.int .i64 0] x (.slice y.a y.n y.c) C:=by
 obtain⟨cs,h1,h2,h3⟩:=h
 exact ew (α:=Ent) rfl h1 h2 (hy.mono h3) h3 (by omega) (by omega) fun s V' cs' a b c=>hC s V' ⟨cs',a,b,c⟩
theorem mK.one {V0 V:View} {x:Sl} {l:List Ent} {e:Ent} {r:Nat} {C:Sl→View→Prop} (h:mK V0 V x l) (hr:V.size≤r) (hs:e.name.size≤9223372036854775807) (hi:inI .i64 e.node) (hlen:l.length≤1000) (hC:∀s V',mK V0 V' s (l++ [e])→C s V'):
  apV (V.put r (.cells ⟨[.string e.name,.int .i64 e.node]⟩ 85 (0,0))) 85 2 24 [.string (ba []),.int .i64 0] x (.slice (some ⟨r,0,none⟩) 1 1) C:=by
 obtain⟨cs,h1,h2,h3⟩:=h
 have hn:=h1.n_eq (α:=Ent) h2
 exact pn (α:=Ent) (d:=e) rfl h1 h2 ⟨rfl,hs,hi⟩ h3 hr rfl (by omega) (by omega) fun s V' cs' a b c=>hC s V' ⟨cs',a,b,c⟩
theorem mL {V:View} {x:Sl} {l:List Ent} {s:ByteArray} {i:Int} (h:SlR V x l) (hs:s.size≤9223372036854775807) (hi:inI .i64 i):af Tryz.prog 130 ⟨[.slice x.a x.n x.c,.string s,.int .i64 i]⟩ V fun r V' =>Dp V' r (fS l ⟨s,i⟩)∧V.Le V' :=by
 refine Ke ?_
 unfold BZ
 have hn:=h.n;have hc:=h.c
 refine ai (fun q V' =>V' =V∧q.1= !(bZ l&&dG ⟨s,i⟩)) ((um h).mono ?_) ?_
 ·rintro r V1 ⟨rfl,rfl⟩
  refine⟨_,rfl,aa (fun hb=>⟨rfl,by rw[aM hb];rfl⟩) (fun hb=>(jN hs).mono ?_)⟩
  rintro r V2 ⟨rfl,rfl⟩
  refine⟨_,rfl,rfl, ?_⟩
  rw[aD hb]
  unfold dG
  show _= !(true&&(cG s&&decide (1≤i)&&decide (i<12)))
  have e1:decide (i<1)= !decide (1≤i):=by
   by_cases h:1≤i
   ·rw[decide_eq_true h,decide_eq_false (by omega)];rfl
   ·rw[decide_eq_false h,decide_eq_true (by omega)];rfl
  have e2:decide (12≤i)= !decide (i<12):=by
   by_cases h:i<12
   ·rw[decide_eq_true h,decide_eq_false (by omega)];rfl
   ·rw[decide_eq_false h,decide_eq_true (by omega)];rfl
  rw[e1,e2]
  cases cG s<;>cases decide (1≤i)<;>cases decide (i<12)<;>rfl
 rintro⟨q,⟨⟩⟩ V1 ⟨rfl,hq⟩
 dsimp only [unc]at*
 unfold fS
 refine aa (fun hb=> ?_) (fun hb=> ?_)
 ·rw[hq]at hb
  rw[if_neg (by rw[aM hb];decide)]
  exact⟨⟨⟨none,0,0⟩,1,rfl,rfl,SlR.nil _ _ _⟩,View.Le.refl _⟩
 have hM:(bZ l&&dG ⟨s,i⟩)=true:=by rw[hq]at hb;exact aD hb
 have hM1:bZ l=true:=by rw[Bool.and_eq_true]at hM;exact hM.1
 have hlen:=ey hM1
 rw[if_pos hM]
 refine(gF h).mono ?_
 rintro r V2 ⟨rfl,rfl⟩
 refine⟨_,rfl, ?_⟩
 rw[qP (kL hM1)]
 refine aa (fun hb=> ?_) (fun hb=> ?_)
 ·rw[if_pos hb]
  exact⟨⟨⟨none,0,0⟩,9,rfl,rfl,SlR.nil _ _ _⟩,View.Le.refl _⟩
 rw[if_neg (by rw[hb];decide)]
 refine aa (fun hb=> ?_) (fun hb=> ?_)
 ·rw[if_pos (show 10≤l.length by have:=of_decide_eq_true hb;omega)]
  exact⟨⟨⟨none,0,0⟩,14,rfl,rfl,SlR.nil _ _ _⟩,View.Le.refl _⟩
 rw[if_neg (show ¬10≤l.length by have:=of_decide_eq_false hb;omega)]
 refine bh (k:= .int .i64) (fun(y:Int) V' =>V' =V2∧0≤y∧y≤l.length∧∀e∈l.take y.toNat,bf e.name s=true) (fun(y:Int) _=>l.length-y.toNat) ⟨rfl,by omega,by omega,by simp⟩ ?_
 rintro(y:Int) V3 ⟨rfl,h0,h1,h2⟩
 refine ai (fun q V' =>V' =V3∧((q.1=true∧∃hx:y.toNat<l.length,bf l[y.toNat].name s=true)∨(q.1=false∧∀hx:y.toNat<l.length,bf l[y.toNat].name s=false))) (aa (fun hlt=> ?_) (fun hge=> ?_)) ?_
 ·have hlt:y<x.n:=by simpa using hlt
  obtain⟨ad,hx,ha,hcc,_⟩:=h.ent h0 hlt
  refine⟨h0,hlt,ad,ha,l[y.toNat].name,hcc 0 _ rfl,rfl, ?_⟩
  cases hq:bf l[y.toNat].name s with
  | true=>exact .inl ⟨rfl,hx,hq⟩
  | false=>exact .inr ⟨rfl,fun _=>hq⟩
 ·have hge:¬y<x.n:=by simpa using hge
  exact⟨rfl,.inr ⟨rfl,fun hx=>by omega⟩⟩
 ·rintro⟨q,⟨⟩⟩ V4 ⟨rfl,hJ⟩
  dsimp only [unc]at*
  refine aa (fun hq=> ?_) (fun hq=> ?_)
  ·subst hq
   rcases hJ with ⟨_,hx,hl⟩ | ⟨hf,_⟩
   ·refine⟨au (by omega) (by omega),⟨rfl,by omega,by omega, ?_⟩,by omega⟩
    rw[show(y+1).toNat=y.toNat+1 by omega,List.take_add_one,List.getElem?_eq_getElem hx]
    intro p hp
    rcases List.mem_append.1 hp with hp | hp
    ·exact h2 p hp
    ·simp at hp;rw[hp];exact hl
   ·cases hf
  ·subst hq
   have hl:∀hx:y.toNat<l.length,bf l[y.toNat].name s=false:=by
    rcases hJ with ⟨hf,_⟩ | ⟨_,h6⟩
    ·cases hf
    ·exact h6
   obtain⟨e1,e2⟩:=wq h2 hl
   have ef:bu l ⟨s,i⟩=([]++l.take y.toNat)++ [(⟨s,i⟩:Ent)]++l.drop y.toNat:=by
    unfold bu
    dsimp only
    rw[e1,e2];simp
   have s1:SlR V4 ⟨if x.c=0 then x.a else x.a.map fun q=>q.add 0,y.toNat-0,x.c-0⟩ (l.take y.toNat):=by
    have:=h.sub (i:=0) (j:=y.toNat) (Nat.zero_le _) (by omega)
    rw[List.drop_zero]at this;exact this
   have s3:SlR V4 ⟨if x.c=y.toNat then x.a else x.a.map fun q=>q.add (y.toNat*2),(x.n:Int).toNat-y.toNat,x.c-y.toNat⟩ (l.drop y.toNat):=by
    have:=h.sub (i:=y.toNat) (j:=l.length) (by omega) (Nat.le_refl _)
    rw[List.take_length]at this
    rw[show(x.n:Int).toNat=l.length by omega];exact this
   refine ai (fun q V' =>q.2.1=0∧SlR V' q.1 (bu l ⟨s,i⟩)∧V4.Le V') ⟨trivial,Int.le_refl _,h0,by omega,h0,by omega,by omega, ?_, ?_⟩ ?_
   ·refine(mK.nil V4).row s1 (by simp;omega) fun s4 V5 g1 r hr=> ?_
    refine g1.one (e:=⟨s,i⟩) hr hs hi (by simp;omega) fun s5 V6 g2=> ?_
    refine g2.row s3 (by simp;omega) fun s6 V7 g3=>⟨rfl, ?_,g3.slR.2⟩
    rw[ef];exact g3.slR.1
   ·intro r hr
    have f1:=View.ax hr
    have p1:=View.bB (o:= .cells ⟨[.string s,.int .i64 i]⟩ 85 (0,0)) f1
    have s2:SlR (V4.put r (.cells ⟨[.string s,.int .i64 i]⟩ 85 (0,0))) ⟨some ⟨r,0,none⟩,1,1⟩ [(⟨s,i⟩:Ent)]:=
     bK (l:= [(⟨s,i⟩:Ent)]) (W:=V4) (View.ah _ _ _) ⟨[.string s,.int .i64 i],[],rfl,⟨rfl,hs,hi⟩,rfl⟩ p1 (show 1≤140737488355328 by decide)
    refine(mK.nil _).row (s1.mono p1) (by simp;omega) fun s4 V5 g1=> ?_
    refine g1.row (y:=⟨some ⟨r,0,none⟩,1,1⟩) s2 (by simp;omega) fun s5 V6 g2=> ?_
    refine g2.row (s3.mono p1) (by simp;omega) fun s6 V7 g3=>⟨rfl, ?_,p1.trans g3.slR.2⟩
    rw[ef];exact g3.slR.1
   ·rintro⟨z,e,⟨⟩⟩ V5 ⟨g1,g2,g3⟩
    dsimp only [unc]at*
    subst g1
    exact⟨⟨z,0,rfl,rfl,g2⟩,g3⟩
theorem xg (l:List Ent) (e:Ent) (s:ByteArray):aI (l++ [e]) s=if e.name=s then aI l s else aI l s++ [e]:=by
 unfold aI
 rw[List.filter_append]
 by_cases h:e.name=s
 ·rw[if_pos h,List.filter_cons_of_neg (by simp [h])];simp
 ·rw[if_neg h,List.filter_cons_of_pos (by simp [h])];rfl
theorem gy {V:View} {x:Sl} {l:List Ent} {s:ByteArray} (h:SlR V x l):af Tryz.prog 127 ⟨[.slice x.a x.n x.c,.string s]⟩ V fun r V' =>Dp V' r (dy l s)∧V.Le V' :=by
 refine Kb ?_
 unfold BW
 have hn:=h.n;have hc:=h.c
 refine(um h).mono ?_
 rintro r V1 ⟨rfl,rfl⟩
 unfold dy
 refine⟨_,rfl,aa (fun hb=> ?_) (fun hb=> ?_)⟩
 ·rw[if_neg (by rw[aM hb];decide)]
  exact⟨⟨⟨none,0,0⟩,1,rfl,rfl,SlR.nil _ _ _⟩,View.Le.refl _⟩
 have hM:=aD hb
 have hlen:=ey hM
 rw[if_pos hM]
 refine(gF h).mono ?_
 rintro r V2 ⟨rfl,rfl⟩
 have hi:=qP (kL hM) s
 refine⟨_,rfl,aa (fun hb=> ?_) (fun hb=> ?_)⟩
 ·rw[decide_eq_false (by have:=of_decide_eq_true hb;omega)]at hi
  rw[if_neg (by rw[←hi];decide)]
  exact⟨⟨⟨none,0,0⟩,8,rfl,rfl,SlR.nil _ _ _⟩,View.Le.refl _⟩
 rw[decide_eq_true (by have:=of_decide_eq_false hb;omega)]at hi
 rw[if_pos hi.symm]
 refine di (k:= .sl) (l:= .int .i64) (fun(z:Sl) (j:Int) V' =>∃k:Nat,j=k∧k≤l.length∧mK V2 V' z (aI (l.take k) s)) (fun _ (j:Int) _=>l.length-j.toNat) ⟨0,rfl,by omega,mK.nil _⟩ ?_
 rintro(z:Sl) (j:Int) V3 ⟨k,rfl,hk,hO⟩
 have hle:=hO.slR.2
 have hcl:=uE (l.take k) s
 rw[List.length_take]at hcl
 refine aa (fun hlt=> ?_) (fun hge=> ?_)
 ·have hlt:k<l.length:=by have:=of_decide_eq_true hlt;omega
  obtain⟨ad,ha,hcc,hsz,hin⟩:=(h.mono hle).lZ hlt
  rw[aB hlt]at hcc hsz hin
  have htk:l.take (k+1)=l.take k++ [l[k]]:=by rw[List.take_add_one,List.getElem?_eq_getElem hlt];rfl
  refine⟨by omega,by omega,ad,ha,_,_,hcc,fun _=>ai (fun q V' =>mK V2 V' q.1 (aI (l.take (k+1)) s)) (aa (fun hb=> ?_) (fun hb=> ?_)) ?_⟩
  ·have hb:¬l[k].name=s:=of_decide_eq_false (aM hb)
   intro r hr
   refine hO.one (e:=l[k]) hr hsz hin (by omega) fun s5 V6 g2=> ?_
   rw[htk,xg,if_neg hb];exact g2
  ·have hb:l[k].name=s:=of_decide_eq_true (aD hb)
   rw[htk,xg,if_pos hb];exact hO
  ·rintro⟨q,⟨⟩⟩ V4 hq
   dsimp only [unc]at*
   exact⟨au (by omega) (by omega),⟨k+1,by omega,by omega,hq⟩,by omega⟩
 ·have hge:k=l.length:=by have:=of_decide_eq_false hge;omega
  subst hge
  rw[List.take_length]at hO
  exact⟨⟨z,0,rfl,rfl,hO.slR.1⟩,hle⟩
theorem o5 {k:Int} {V:View} :af Tryz.prog 75 ⟨[.int .i64 k]⟩ V fun r V' =>(∃s e:Sl,r=eN (aQ k) s e∧dJ V' s e (aQ k))∧V.Le V' :=by
 refine MB ?_
 unfold Ho
 refine fun _=>aa (fun h1=>⟨by decide,by decide,by decide,by decide,fun r hr=> ?_⟩) (fun h1=>aa (fun h2=> ?_) (fun h2=> ?_))
 ·have h1:k=1:=of_decide_eq_true h1
  subst h1
  have hp:=View.bB (o:= .cells ⟨(List.replicate 5 [.int .i64 0]).flatten⟩ 3 (0,0)) (View.ax hr)
  refine⟨⟨⟨some ⟨r,0,none⟩,5,5⟩,⟨none,0,0⟩,rfl,oO,oO,zero64, ?_,SlR.nil _ _ _⟩,hp⟩
  exact bK (l:= [0,0,0,0,0]) (W:=V) (View.ah _ _ _) (nc (l:= [0,0,0,0,0]) fun n hn=>by
   have:n=0:=by simpa using hn
   rw[this];exact zero64) hp (show 5≤140737488355328 by decide)
 ·have h2:k=2:=of_decide_eq_true h2
  subst h2
  exact⟨⟨⟨none,0,0⟩,⟨none,0,0⟩,rfl,zi,oO,zero64,SlR.nil _ _ _,SlR.nil _ _ _⟩,View.Le.refl _⟩
 ·have e:aQ k=Nod.zero:=by
   unfold aQ
   rw[if_neg (of_decide_eq_false h1),if_neg (of_decide_eq_false h2)]
  rw[e]
  exact⟨⟨⟨none,0,0⟩,⟨none,0,0⟩,rfl,zero64,zero64,zero64,SlR.nil _ _ _,SlR.nil _ _ _⟩,View.Le.refl _⟩
theorem bG {V V' :View} {c:Int} {o:Except Int Tre} (hc:c≠0) (hle:V.Le V') (ho:o= .error c):gH V V' (.tuple ⟨[.agg ⟨[.slice none 0 0]⟩,.int .i64 c]⟩) o:=by
 subst ho
 exact⟨⟨⟨none,0,0⟩,c,rfl,rfl,hc,SlR.nil _ _ _⟩,hle⟩
theorem lC {t:Tre} {p s:ByteArray} {d:Nat} (h:aH t p= .ok (d,s)):FN (aH t p)= .tuple ⟨[.int .i64 (d:Int),.string s,.int .i64 0]⟩:=by rw[h];rfl
theorem jF {t:Tre} {p:ByteArray} {e:Int} (h:aH t p= .error e):FN (aH t p)= .tuple ⟨[.int .i64 0,.string (ba []),.int .i64 e]⟩:=by rw[h];rfl
theorem o6 {s:Sl} {t:Tre} {p:ByteArray} {k:Int} {V:View} (h:SlR V s t) (hp:p.size≤9223372036854775807):af Tryz.prog 124 ⟨[aZ s,.string p,.int .i64 k]⟩ V fun r V' =>gH V V' r (cZ t p k):=by
 refine J8 ?_
 unfold BT
 have hn:=h.n
 refine fun _ _=>(eL h hp).mono ?_
 rintro r V1 ⟨rfl,hV1⟩
 cases hq:aH t p with
 | error e=>
   rw[←hq,jF hq]
   exact⟨_,_,_,rfl,aa (fun _=>bG (bS hq) hV1 (by unfold cZ;rw[hq])) (fun h=>absurd (of_decide_eq_true (aD h)) (bS hq))⟩
 | ok q=>
   obtain⟨d,n⟩:=q
   obtain⟨ld,P⟩:=dz hq
   have hd:=P.d12
   have h12:=(bq P.may).1
   have hE:cZ t p k=if 0≤atI (ag t d) n then .error 9 else if bE t<0 then .error 14 else if 10≤(ag t d).length then .error 14 else .ok ((aJ t d (bu (ag t d) ⟨n,bE t⟩)).set (bE t).toNat (aQ k)):=by unfold cZ;rw[hq]
   rw[←hq,lC hq]
   obtain⟨ad,sq,en,ha,hc,hN⟩:=(h.mono hV1).bO (i:=d) (by omega)
   have hen:en.n=(ag t d).length:=hN.az.n
   refine⟨_,_,_,rfl,aa (fun h=>absurd h (by decide)) (fun _=>⟨by omega,by omega,ad,ha,en,av hc 4 rfl,(gF hN.az).mono ?_⟩)⟩
   rintro r V2 ⟨rfl,rfl⟩
   refine⟨_,rfl,aa (fun h0=>bG (by decide) hV1 (by rw[hE];exact if_pos (of_decide_eq_true h0))) (fun h0=> ?_)⟩
   have h0:¬0≤atI (ag t d) n:=of_decide_eq_false h0
   rw[if_neg h0]at hE
   refine(yN (h.mono hV1)).mono ?_
   rintro r V3 ⟨rfl,hV3⟩
   have q3:=hV1.trans hV3
   refine⟨_,rfl,ai (fun q V' =>V' =V3∧q.1=decide (bE t<0∨10≤(ag t d).length)) (aa (fun hf=>⟨rfl, ?_⟩) (fun hf=>⟨by omega,by omega,ad,ha,en,hV3.cell (av hc 4 rfl),rfl, ?_⟩)) ?_⟩
   ·rw[decide_eq_true (.inl (of_decide_eq_true hf))]
   ·have hf:=of_decide_eq_false hf
    exact decide_eq_decide.2 ⟨fun h=> .inr (by omega),fun h=>by rcases h with h | h<;>omega⟩
   rintro⟨q,⟨⟩⟩ V4 ⟨rfl,hq4⟩
   dsimp only [unc]at*
   refine aa (fun hb=>bG (by decide) q3 ?_) (fun hb=> ?_)
   ·rw[hq4]at hb
    rw[hE]
    by_cases hf:bE t<0
    ·rw[if_pos hf]
    ·rw[if_neg hf]
     rcases of_decide_eq_true hb with h | h
     ·exact absurd h hf
     ·rw[if_pos h]
   rw[hq4]at hb
   have hb:=of_decide_eq_false hb
   have hf:¬bE t<0:=fun h=>hb (.inl h)
   have hfull:¬10≤(ag t d).length:=fun h=>hb (.inr h)
   rw[if_neg hf,if_neg hfull]at hE
   obtain⟨f1,f2,f3⟩:1≤bE t∧bE t<12∧ak t (bE t).toNat=0:=by
    rcases free_spec P.may with h | h
    ·omega
    ·exact h
   have hid:(bE t).toNat≠d:=fun e=>by rw[e,P.kind]at f3;cases f3
   refine(cL (h.mono q3) (bU P.may)).mono ?_
   rintro r V5 ⟨x,rfl,hO⟩
   refine⟨x,rfl,fun _=>⟨trivial,V5,View.Le.refl _,(hO.call o5).mono ?_⟩⟩
   rintro r V6 ⟨U,⟨sq6,en6,rfl,hN6⟩,hU,hV6,hO6⟩
   have hn6:=hO6.n
   obtain⟨ad6,ha6,c1,c2⟩:=hO6.set (i:=(bE t).toNat) (by omega) (n:=aQ k) (vs:= [.int .i64 (aQ k).kind,.int .i64 (aQ k).links,.int .i64 (aQ k).size,.slice sq6.a sq6.n sq6.c,.slice en6.a en6.n en6.c]) fun _ _=>(hN6.mono hU).rep
   refine⟨_,_,_,sq6,en6,rfl,hV6,by omega,by omega,ad6,ha6,c1,trivial,_,View.Le.refl _,by omega,by omega, ?_⟩
   have q7:=q3.trans c2.le
   obtain⟨ad7,sq7,en7,ha7,hc7,hN7⟩:=(h.mono q7).bO (i:=d) (by omega)
   have hlen:=P.size
   obtain⟨cs,hB,hrr,hle⟩:=id c2
   refine⟨ad7,ha7,en7,av hc7 4 rfl,(c2.call (mL (((h.mono q3).mono hle).bO (i:=d) (by omega) |> fun⟨ad8,sq8,en8,ha8,hc8,hN8⟩=>by
    have e1:ad8=ad7:=by rw[ha7]at ha8;cases ha8;rfl
    subst e1
    have e2:=aV (View.aj _ _) hc8 4 _ rfl
    have e3:=hc7 4 _ rfl
    rw[e2]at e3
    have e3:=Option.some.inj e3
    simp only [Value.slice.injEq]at e3
    have e4:en8=en7:=by obtain⟨a,b,c⟩:=e3;cases en8;cases en7;simp_all
    rw[←e4];exact hN8.az) (by omega) (au (by omega) (by omega)))).mono ?_⟩
   rintro r V8 ⟨U8,⟨y,e,rfl,hy⟩,hU8,hV8,hO8⟩
   have hw:=nB P f1 f2 h0
   rw[if_neg hfull]at hw
   have hw:fS (t.getD d default).az ⟨n,bE t⟩= .ok (bu (ag t d) ⟨n,bE t⟩):=hw
   rw[hw]at hy
   obtain⟨rfl,hy⟩:=hy
   have hn8:=hO8.n
   rw[List.length_set]at hn8
   obtain⟨ad9,sq9,en9,ha9,hc9,_,_,_,_,hset⟩:=hO8.ji (i:=d) (by simp;omega)
   obtain⟨a1,a2⟩:=hset y (bu (ag t d) ⟨n,bE t⟩) _ (hy.mono hU8) rfl
   rw[hE]
   refine⟨y,_,rfl,hV8,by omega,by omega,ad9,ha9,a1,⟨x,0,rfl,rfl, ?_⟩,q3.trans a2.le⟩
   have e5:(t.set (bE t).toNat (aQ k)).set d { (t.set (bE t).toNat (aQ k)).getD d default with az:=bu (ag t d) ⟨n,bE t⟩ } =(aJ t d (bu (ag t d) ⟨n,bE t⟩)).set (bE t).toNat (aQ k):=by
    have g1:∀j,(t.set (bE t).toNat (aQ k)).getD j default=if j=(bE t).toNat then aQ k else t.getD j default:=fun j=>dc (by omega)
    refine wC (by simp [aE]) fun j _=> ?_
    rw[dc (t:=t.set (bE t).toNat (aQ k)) (by simp;omega),g1,g1,dc (t:=aJ t d (bu (ag t d) ⟨n,bE t⟩)) (by rw[aE];omega),fM (by omega)]
    by_cases h1:j=d
    ·subst h1;rw[if_pos rfl,if_neg (fun e=>hid e.symm),if_neg (fun e=>hid e.symm),if_pos rfl]
    ·rw[if_neg h1,if_neg h1]
   rw[←e5];exact a2.slR
theorem uV {s:Sl} {t:Tre} {p:ByteArray} {V:View} (h:SlR V s t) (hp:p.size≤9223372036854775807):af Tryz.prog 78 ⟨[aZ s,.string p]⟩ V fun r V' =>gH V V' r (cZ t p 1):=by
 refine MD ?_
 unfold Hr
 refine fun _ _=>(o6 h hp).mono ?_
 rintro r V1 ⟨⟨x,e,rfl,h1⟩,h2⟩
 exact⟨x,e,rfl,⟨x,e,rfl,h1⟩,h2⟩
theorem xj {s:Sl} {t:Tre} {p:ByteArray} {V:View} (h:SlR V s t) (hp:p.size≤9223372036854775807):af Tryz.prog 79 ⟨[aZ s,.string p]⟩ V fun r V' =>gH V V' r (cZ t p 2):=by
 refine ME ?_
 unfold Hs
 refine fun _ _=>(o6 h hp).mono ?_
 rintro r V1 ⟨⟨x,e,rfl,h1⟩,h2⟩
 exact⟨x,e,rfl,⟨x,e,rfl,h1⟩,h2⟩
theorem rG {V0 V:View} {x y:Sl} {t:Tre} {i:Nat} {held:List Bool} (h:cD V0 V x t) (hi:i<t.length) (hk:ak t i=1) (hl:1≤(t.getD i default).links) (hy:SlR V0 y held):
  af Tryz.prog 128 ⟨[aZ x,.int .i64 i,.slice y.a y.n y.c]⟩ V fun r V' =>r= .tuple ⟨[]⟩∧cD V0 V' x (cj t i held):=by
 refine Kc ?_
 unfold BX
 obtain⟨ad,sq,en,ha,hcs,hN,hset,_⟩:=h.ji hi
 have hn:=h.n
 have hyn:=hy.n
 obtain⟨a1,a2⟩:=hset ((t.getD i default).links-1) _ (nA hN.links (by omega)) rfl
 have hi1:i<(t.set i { t.getD i default with links:=(t.getD i default).links-1 }).length:=by simpa using hi
 obtain⟨ad1,sq1,en1,ha1,hcs1,hN1,_⟩:=a2.ji hi1
 have e1:(t.set i { t.getD i default with links:=(t.getD i default).links-1 }).getD i default= { t.getD i default with links:=(t.getD i default).links-1 } :=by
  rw[aB hi1];simp
 rw[ha]at ha1;cases ha1
 rw[e1]at hcs1
 have hle1:=a2.le
 refine fun _=>⟨by omega,by omega,ad,ha,_,av hcs 1 rfl,nA hN.links (by omega),by omega,by omega,ad,ha,a1, ?_⟩
 refine ai (fun q V' =>cD V0 V' x (t.set i { t.getD i default with links:=(t.getD i default).links-1 })∧q.1=(decide ((t.getD i default).links-1=0)&& !ct held i)) ⟨by omega,by omega,ad,ha,_,av hcs1 1 rfl,aa (fun hz=>(uU (hy.mono hle1)).mono ?_) (fun hz=>⟨a2,by rw[hz];rfl⟩)⟩ ?_
 ·rintro r V1 ⟨rfl,rfl⟩
  exact⟨_,rfl,a2,by rw[hz];rfl⟩
 rintro⟨q,⟨⟩⟩ V1 ⟨hO,hq⟩
 dsimp only [unc]at*
 refine ai (fun _ V' =>cD V0 V' x (cj t i held)) (aa (fun hb=> ?_) (fun hb=> ?_)) ?_
 ·rw[hq,Bool.and_eq_true]at hb
  have hz:=of_decide_eq_true hb.1
  obtain⟨ad2,ha2,b1,b2⟩:=hO.set (i:=i) hi1 (n:=Nod.zero) (vs:= [.int .i64 0,.int .i64 0,.int .i64 0,.slice none 0 0,.slice none 0 0]) fun _ _=>ie
  rw[List.set_set]at b2
  refine⟨by omega,by omega,ad2,ha2,b1, ?_⟩
  have:cj t i held=t.set i Nod.zero:=by
   unfold cj
   rw[if_neg]
   rintro⟨_,h | h⟩
   ·omega
   ·rw[h]at hb;exact absurd hb.2 (by decide)
  rw[this];exact b2
 ·rw[hq]at hb
  have:cj t i held=t.set i { t.getD i default with links:=(t.getD i default).links-1 } :=by
   unfold cj
   rw[if_pos]
   refine⟨hk, ?_⟩
   by_cases hz:(t.getD i default).links-1=0
   ·right
    rw[decide_eq_true hz,Bool.true_and]at hb
    exact aD hb
   ·left;omega
  rw[this];exact hO
 ·rintro⟨⟩ V2 h2;exact⟨rfl,h2⟩
theorem jG {V0 V:View} {x y:Sl} {t:Tre} {d:Nat} {l:List Ent} (h:cD V0 V x t) (hd:d<t.length) (hy:SlR (V.minus x) y l):∃ad,x.a=some ad∧ay V ((ad.add (d*5)).add 4) 1∧cD V0 (V.sets ((ad.add (d*5)).add 4) [.slice y.a y.n y.c]) x (aJ t d l):=by
 obtain⟨ad,sq,en,ha,hcs,hN,_,_,_,hset⟩:=h.ji hd
 obtain⟨a1,a2⟩:=hset y l _ hy rfl
 exact⟨ad,ha,a1,a2⟩
theorem tH {V V1 V2:View} {s x:Sl} {t u:Tre} {d:Nat} (h:SlR V s t) (hO:cD V1 V2 x u) (hV:V.Le V1) (hd:d<t.length):∃ad en,s.a=some ad∧V2.cell? ((ad.add (d*5)).add 4)=some (.slice en.a en.n en.c)∧SlR (V2.minus x) en (ag t d):=by
 obtain⟨cs,hB,hr,hle⟩:=hO
 have h1:=(h.mono hV).mono hle
 obtain⟨ad,sq,en,ha,hc,hN⟩:=h1.bO hd
 exact⟨ad,en,ha,(View.aj _ _).cell (av hc 4 rfl),hN.az⟩
theorem uW {s y:Sl} {t:Tre} {p:ByteArray} {held:List Bool} {V:View} (h:SlR V s t) (hy:SlR V y held) (hp:p.size≤9223372036854775807):af Tryz.prog 80 ⟨[aZ s,.string p,.slice y.a y.n y.c]⟩ V fun r V' =>gH V V' r (dM t p held):=by
 refine MF ?_
 unfold Ht
 have hn:=h.n
 refine fun _ _=>(eL h hp).mono ?_
 rintro r V1 ⟨rfl,hV1⟩
 cases hq:aH t p with
 | error e=>
   rw[←hq,jF hq]
   exact⟨_,_,_,rfl,aa (fun _=>bG (bS hq) hV1 (by unfold dM;rw[hq])) (fun h=>absurd (of_decide_eq_true (aD h)) (bS hq))⟩
 | ok q=>
   obtain⟨d,n⟩:=q
   obtain⟨ld,P⟩:=dz hq
   have hd:=P.d12
   have h12:=(bq P.may).1
   have hE:dM t p held=if atI (ag t d) n<0 then .error 8 else if ak t (atI (ag t d) n).toNat=2 then .error 10 else .ok (cj (aJ t d (aI (ag t d) n)) (atI (ag t d) n).toNat held):=by unfold dM;rw[hq]
   rw[←hq,lC hq]
   obtain⟨ad,sq,en,ha,hc,hN⟩:=(h.mono hV1).bO (i:=d) (by omega)
   refine⟨_,_,_,rfl,aa (fun h=>absurd h (by decide)) (fun _=>⟨by omega,by omega,ad,ha,en,av hc 4 rfl,(gF hN.az).mono ?_⟩)⟩
   rintro r V2 ⟨rfl,rfl⟩
   refine⟨_,rfl,aa (fun h0=>bG (by decide) hV1 (by rw[hE];exact if_pos (of_decide_eq_true h0))) (fun h0=> ?_)⟩
   have h0:¬atI (ag t d) n<0:=of_decide_eq_false h0
   rw[if_neg h0]at hE
   obtain⟨k0,k1,k2,k3,xe,hx,_,hxi⟩:=eY P.may h0
   have hne:=eG P.may h0
   obtain⟨i,hi⟩:∃i:Nat,atI (ag t d) n=i:=⟨(atI (ag t d) n).toNat,by omega⟩
   have hi' :atI (t.getD d default).az n=i:=hi
   rw[hi']
   rw[hi]at k1 k2 k3 hne hE hxi
   rw[Int.toNat_natCast]at k3 hne hE
   obtain⟨ad2,sq2,en2,ha2,hc2,hN2⟩:=(h.mono hV1).bO (i:=i) (by omega)
   refine⟨by omega,by omega,ad2,ha2,_,av hc2 0 rfl,aa (fun hk=>bG (by decide) hV1 (by rw[hE];exact if_pos (of_decide_eq_true hk))) (fun hk=> ?_)⟩
   have hk:¬ak t i=2:=of_decide_eq_false hk
   rw[if_neg hk]at hE
   refine(cL (h.mono hV1) (bU P.may)).mono ?_
   rintro r V3 ⟨x,rfl,hO⟩
   have hxn:=hO.n
   obtain⟨ad4,en4,ha4,hc4,hs4⟩:=tH (d:=d) h hO hV1 (by omega)
   refine⟨x,rfl,fun _=>⟨trivial,V3,View.Le.refl _,by omega,by omega,ad4,ha4,en4,hc4,(hO.call (gy hs4)).mono ?_⟩⟩
   rintro r V4 ⟨U4,⟨z,e,rfl,hz⟩,hU4,hV4,hO4⟩
   rw[fz P (by rw[hi];omega)]at hz
   obtain⟨rfl,hz⟩:=hz
   obtain⟨ad5,ha5,c1,c2⟩:=jG hO4 (d:=d) (by omega) (hz.mono hU4)
   have hF:=bP P.may
   have hk1:ak t i=1:=by
    rcases fI (hF.at (i:=i) (by omega))with h | h | h
    ·exact absurd h k3
    ·exact h
    ·exact absurd h hk
   have hl1:1≤(t.getD i default).links:=by
    have h1:=hF.file i (by omega) hk1
    have:=ic (x:=(i:Int)) hx hxi
    omega
   have e1:=cK (t:=t) (l:=aI (ag t d) n) hne
   refine⟨z,_,rfl,hV4,by omega,by omega,ad5,ha5,c1,(rG c2 (i:=i) (by rw[aE];omega) (by unfold ak;rw[e1];exact hk1) (by rw[e1];exact hl1) (hy.mono hV1)).mono ?_⟩
   rintro r V5 ⟨rfl,h5⟩
   rw[hE]
   exact⟨rfl,⟨x,0,rfl,rfl,h5.slR⟩,hV1.trans h5.le⟩
theorem xk {s:Sl} {t:Tre} {p:ByteArray} {V:View} (h:SlR V s t) (hp:p.size≤9223372036854775807):af Tryz.prog 81 ⟨[aZ s,.string p]⟩ V fun r V' =>gH V V' r (ff t p):=by
 refine MG ?_
 unfold Hu
 have hn:=h.n
 refine fun _ _=>(eL h hp).mono ?_
 rintro r V1 ⟨rfl,hV1⟩
 cases hq:aH t p with
 | error e=>
   rw[←hq,jF hq]
   exact⟨_,_,_,rfl,aa (fun _=>bG (bS hq) hV1 (by unfold ff;rw[hq])) (fun h=>absurd (of_decide_eq_true (aD h)) (bS hq))⟩
 | ok q=>
   obtain⟨d,n⟩:=q
   obtain⟨ld,P⟩:=dz hq
   have hd:=P.d12
   have h12:=(bq P.may).1
   have hE:ff t p=if atI (ag t d) n<0 then .error 8 else if ak t (atI (ag t d) n).toNat≠2 then .error 11 else if 0<(ag t (atI (ag t d) n).toNat).length then .error 12 else .ok ((aJ t d (aI (ag t d) n)).set (atI (ag t d) n).toNat Nod.zero):=by unfold ff;rw[hq]
   rw[←hq,lC hq]
   obtain⟨ad,sq,en,ha,hc,hN⟩:=(h.mono hV1).bO (i:=d) (by omega)
   refine⟨_,_,_,rfl,aa (fun h=>absurd h (by decide)) (fun _=>⟨by omega,by omega,ad,ha,en,av hc 4 rfl,(gF hN.az).mono ?_⟩)⟩
   rintro r V2 ⟨rfl,rfl⟩
   refine⟨_,rfl,aa (fun h0=>bG (by decide) hV1 (by rw[hE];exact if_pos (of_decide_eq_true h0))) (fun h0=> ?_)⟩
   have h0:¬atI (ag t d) n<0:=of_decide_eq_false h0
   rw[if_neg h0]at hE
   obtain⟨k0,k1,k2,k3,xe,hx,_,hxi⟩:=eY P.may h0
   have hne:=eG P.may h0
   obtain⟨i,hi⟩:∃i:Nat,atI (ag t d) n=i:=⟨(atI (ag t d) n).toNat,by omega⟩
   have hi' :atI (t.getD d default).az n=i:=hi
   rw[hi']
   rw[hi]at k1 k2 k3 hne hE hxi
   rw[Int.toNat_natCast]at k3 hne hE
   obtain⟨ad2,sq2,en2,ha2,hc2,hN2⟩:=(h.mono hV1).bO (i:=i) (by omega)
   have hen2:en2.n=(ag t i).length:=hN2.az.n
   refine⟨by omega,by omega,ad2,ha2,_,av hc2 0 rfl,aa (fun hk=>bG (by decide) hV1 (by rw[hE];exact if_pos (show ak t i≠2 from of_decide_eq_false (aM hk)))) (fun hk=> ?_)⟩
   have hk:ak t i=2:=of_decide_eq_true (aD hk)
   rw[if_neg (fun h=>h hk)]at hE
   refine⟨by omega,by omega,ad2,ha2,en2,av hc2 4 rfl,aa (fun hl=>bG (by decide) hV1 (by rw[hE];exact if_pos (by have:=of_decide_eq_true hl;omega))) (fun hl=> ?_)⟩
   rw[if_neg (by have:=of_decide_eq_false hl;omega)]at hE
   refine(cL (h.mono hV1) (bU P.may)).mono ?_
   rintro r V3 ⟨x,rfl,hO⟩
   have hxn:=hO.n
   obtain⟨ad4,en4,ha4,hc4,hs4⟩:=tH (d:=d) h hO hV1 (by omega)
   refine⟨x,rfl,fun _=>⟨trivial,V3,View.Le.refl _,by omega,by omega,ad4,ha4,en4,hc4,(hO.call (gy hs4)).mono ?_⟩⟩
   rintro r V4 ⟨U4,⟨z,e,rfl,hz⟩,hU4,hV4,hO4⟩
   rw[fz P (by rw[hi];omega)]at hz
   obtain⟨rfl,hz⟩:=hz
   obtain⟨ad5,ha5,c1,c2⟩:=jG hO4 (d:=d) (by omega) (hz.mono hU4)
   obtain⟨ad6,ha6,b1,b2⟩:=c2.set (i:=i) (by rw[aE];omega) (n:=Nod.zero) (vs:= [.int .i64 0,.int .i64 0,.int .i64 0,.slice none 0 0,.slice none 0 0]) fun _ _=>ie
   rw[hE]
   exact⟨z,_,rfl,hV4,by omega,by omega,ad5,ha5,c1,by omega,by omega,ad6,ha6,b1,⟨x,0,rfl,rfl,b2.slR⟩,hV1.trans b2.le⟩
theorem yO {s:Sl} {t:Tre} {p q:ByteArray} {V:View} (h:SlR V s t) (hp:p.size≤9223372036854775807) (hq' :q.size≤9223372036854775807):af Tryz.prog 83 ⟨[aZ s,.string p,.string q]⟩ V fun r V' =>gH V V' r (iC t p q):=by
 refine MJ ?_
 unfold Hw
 have hn:=h.n
 refine fun _ _=>(rF h hp).mono ?_
 rintro r V1 ⟨rfl,hV1⟩
 cases hf:b8 t p with
 | error e=>
   exact⟨_,_,rfl,aa (fun _=>bG (gj hf) hV1 (by unfold iC;rw[hf])) (fun h=>absurd (of_decide_eq_true (aD h)) (gj hf))⟩
 | ok i=>
   have hi:=gE hf
   have hM:=kR hf
   have h12:=(bq hM).1
   have hE:iC t p q=if ak t i=2 then .error 10 else match aH t q with
    | .error e=> .error e
    | .ok (d,s)=>if 0≤atI (ag t d) s then .error 9 else if 10≤(ag t d).length then .error 14 else
      .ok ((aJ t d (bu (ag t d) ⟨s,i⟩)).set i { t.getD i default with links:=(t.getD i default).links+1 }):=by unfold iC;rw[hf]<;>rfl
   obtain⟨ad,sq,en,ha,hc,hN⟩:=(h.mono hV1).bO (i:=i) (by omega)
   refine⟨_,_,rfl,aa (fun h=>absurd h (by decide)) (fun _=>⟨by omega,by omega,ad,ha,_,av hc 0 rfl,aa (fun hk=>bG (by decide) hV1 (by rw[hE];exact if_pos (show ak t i=2 from of_decide_eq_true hk))) (fun hk=> ?_)⟩)⟩
   have hk:¬ak t i=2:=of_decide_eq_false hk
   rw[if_neg hk]at hE
   refine(eL (h.mono hV1) hq').mono ?_
   rintro r V2 ⟨rfl,hV2⟩
   have q2:=hV1.trans hV2
   cases hr:aH t q with
   | error e=>
     rw[←hr,jF hr]
     exact⟨_,_,_,rfl,aa (fun _=>bG (bS hr) q2 (by rw[hE,hr])) (fun h=>absurd (of_decide_eq_true (aD h)) (bS hr))⟩
   | ok z=>
     obtain⟨d,n⟩:=z
     obtain⟨ld,P⟩:=dz hr
     have hd:=P.d12
     rw[hr]at hE
     dsimp only at hE
     rw[←hr,lC hr]
     have hid:i≠d:=fun e=>hk (by rw[e];exact P.kind)
     have hi0:i≠0:=fun e=>hk (by rw[e];exact(bP hM).top)
     have hlen:=P.size
     obtain⟨ad2,sq2,en2,ha2,hc2,hN2⟩:=(h.mono q2).bO (i:=d) (by omega)
     refine⟨_,_,_,rfl,aa (fun h=>absurd h (by decide)) (fun _=>⟨by omega,by omega,ad2,ha2,en2,av hc2 4 rfl,(mL hN2.az (by omega) (au (by omega) (by omega))).mono ?_⟩)⟩
     rintro r V3 ⟨⟨z,e,rfl,hz⟩,hV3⟩
     have q3:=q2.trans hV3
     by_cases h0:0≤atI (ag t d) n
     ·rw[if_pos h0]at hE
      have hw:fS (ag t d) ⟨n,(i:Int)⟩= .error 9:=by
       rw[jU P.bZ (pP P.uG hi0 hi),if_pos (show eT (ag t d) n=true by rw[jB P,decide_eq_true h0])]
      have hw:fS (t.getD d default).az ⟨n,(i:Int)⟩= .error 9:=hw
      rw[hw]at hz
      obtain⟨rfl,_⟩:=hz
      exact⟨z,_,rfl,aa (fun _=>bG (by decide) q3 hE) (fun h=>absurd h (by decide))⟩
     rw[if_neg h0]at hE
     have hw:=nB P (i:=(i:Int)) (by omega) (by omega) h0
     by_cases hfull:10≤(ag t d).length
     ·rw[if_pos hfull]at hE hw
      have hw:fS (t.getD d default).az ⟨n,(i:Int)⟩= .error 14:=hw
      rw[hw]at hz
      obtain⟨rfl,_⟩:=hz
      exact⟨z,_,rfl,aa (fun _=>bG (by decide) q3 hE) (fun h=>absurd h (by decide))⟩
     rw[if_neg hfull]at hE hw
     have hw:fS (t.getD d default).az ⟨n,(i:Int)⟩= .ok (bu (ag t d) ⟨n,(i:Int)⟩):=hw
     rw[hw]at hz
     obtain⟨rfl,hz⟩:=hz
     refine⟨z,_,rfl,aa (fun h=>absurd h (by decide)) (fun _=>(cL (h.mono q3) (bU hM)).mono ?_)⟩
     rintro r V4 ⟨x,rfl,hO⟩
     have hxn:=hO.n
     obtain⟨cs,_,_,hle⟩:=id hO
     obtain⟨ad5,ha5,c1,c2⟩:=jG hO (d:=d) (by omega) (hz.mono hle)
     have hl:=eA hM hi
     obtain⟨ad6,sq6,en6,ha6,hc6,hN6,hset,_⟩:=c2.ji (i:=i) (by rw[aE];omega)
     have e1:=cK (t:=t) (l:=bu (ag t d) ⟨n,(i:Int)⟩) hid
     rw[e1]at hc6 hset
     obtain⟨b1,b2⟩:=hset ((t.getD i default).links+1) _ (au (by omega) (by omega)) rfl
     rw[hE]
     exact⟨x,rfl,fun _=>⟨by omega,by omega,ad5,ha5,c1,by omega,by omega,ad6,ha6,_,av hc6 1 rfl,au (by omega) (by omega),by omega,by omega,ad6,ha6,b1,⟨x,0,rfl,rfl,b2.slR⟩,q3.trans b2.le⟩⟩
theorem yP {s:Sl} {t:Tre} {i:Int} {V:View} (h:SlR V s t):af Tryz.prog 53 ⟨[aZ s,.int .i64 i]⟩ V fun r V' =>gH V V' r (c9 t i):=by
 refine Mi ?_
 unfold GX
 have hn:=h.n
 refine fun _ _=>(dK h).mono ?_
 rintro r V1 ⟨rfl,hV1⟩
 refine⟨_,rfl,aa (fun hb=>bG (by decide) hV1 (by unfold c9;rw[if_neg (by rw[aM hb];decide)])) (fun hb=> ?_)⟩
 have hM:=aD hb
 have h12:=(bq hM).1
 have hE:c9 t i=if 0≤i∧i<12∧ak t i.toNat=1∧(t.getD i.toNat default).links≤0 then .ok (t.set i.toNat Nod.zero)else .error 18:=by unfold c9;rw[if_pos hM]
 refine ai (fun q V' =>V' =V1∧q.1= !decide (0≤i∧i<12∧ak t i.toNat=1∧(t.getD i.toNat default).links≤0)) (aa (fun hr=>⟨rfl, ?_⟩) (fun hr=> ?_)) ?_
 ·rw[decide_eq_false]; ·rfl
  rintro⟨h0,h1,_⟩
  rw[decide_eq_false (by omega),decide_eq_false (by omega)]at hr;cases hr
 ·have h0:0≤i:=by
   rcases Int.lt_or_le i 0 with h | h
   ·rw[decide_eq_true h]at hr;cases hr
   ·exact h
  rw[decide_eq_false (by omega)]at hr
  have h1:i<12:=by have:=of_decide_eq_false hr;omega
  obtain⟨ad,sq,en,ha,hc,hN⟩:=(h.mono hV1).bO (i:=i.toNat) (by omega)
  have hl:=eA hM (i:=i.toNat) (by omega)
  refine⟨h0,by omega,ad,ha,_,av hc 0 rfl,aa (fun hk=>⟨rfl, ?_⟩) (fun hk=>⟨h0,by omega,ad,ha,_,av hc 1 rfl,rfl, ?_⟩)⟩
  ·have hk:¬ak t i.toNat=1:=of_decide_eq_false (aM hk)
   rw[decide_eq_false (fun h=>hk h.2.2.1)];rfl
  ·have hk:ak t i.toNat=1:=of_decide_eq_true (aD hk)
   by_cases hl0:(t.getD i.toNat default).links=0
   ·rw[decide_eq_true (show 0≤i∧i<12∧ak t i.toNat=1∧(t.getD i.toNat default).links≤0 from⟨h0,h1,hk,by omega⟩)]
    show(!decide _)=_
    rw[decide_eq_true hl0]
   ·rw[decide_eq_false (show ¬(0≤i∧i<12∧ak t i.toNat=1∧(t.getD i.toNat default).links≤0)from fun h=>by have:=h.2.2.2;omega)]
    show(!decide _)=_
    rw[decide_eq_false hl0]
 ·rintro⟨q,⟨⟩⟩ V2 ⟨rfl,hq⟩
  dsimp only [unc]at*
  refine aa (fun hb=>bG (by decide) hV1 ?_) (fun hb=> ?_)
  ·rw[hq]at hb
   rw[hE,if_neg (of_decide_eq_false (aM hb))]
  ·rw[hq]at hb
   have hc:=of_decide_eq_true (aD hb)
   rw[if_pos hc]at hE
   refine(cL (h.mono hV1) (bU hM)).mono ?_
   rintro r V3 ⟨x,rfl,hO⟩
   have hxn:=hO.n
   obtain⟨ad2,ha2,a1,a2⟩:=hO.set (i:=i.toNat) (by omega) (n:=Nod.zero) (vs:= [.int .i64 0,.int .i64 0,.int .i64 0,.slice none 0 0,.slice none 0 0]) fun _ _=>ie
   rw[hE]
   exact⟨x,rfl,fun _=>⟨by omega,by omega,ad2,ha2,a1,⟨x,0,rfl,rfl,a2.slR⟩,hV1.trans a2.le⟩⟩
theorem uX {s:Sl} {t:Tre} {i f:Nat} {V:View} (h:SlR V s t) (hM:aY t=true) (hi:i<12) (hf:f<12) (hki:ak t i=2) (hkf:ak t f=2):af Tryz.prog 129 ⟨[aZ s,.int .i64 i,.int .i64 f]⟩ V fun r V' =>r= .bool (eF t i f)∧V.Le V' :=by
 refine Kd ?_
 unfold BY
 have hn:=h.n
 have hF:=bP hM
 have h12:=hF.len
 rw[kI hM hi hf,decide_eq_true hki,Bool.true_and]
 refine fun _=>(dK h).mono ?_
 rintro r V1 ⟨rfl,hV1⟩
 rw[hM]
 refine⟨_,rfl,aa (fun hb=> ?_) (fun _=>(qw (a:=i) (h.mono hV1) h12 hF.may hi hki).mono ?_)⟩
 ·rw[decide_eq_false (by omega),decide_eq_false (by omega)]at hb;cases hb
 rintro r V2 ⟨x,rfl,hx,hV2⟩
 have hxn:x.n=12:=by rw[hx.n];simp
 have q2:=hV1.trans hV2
 have hget:∀j:Nat,(hj:j<12)→∃ad,x.a=some ad∧V2.cell? (ad.add (((j:Int)).toNat*1))=some (.bool (iV t i j&&decide (ak t j=2))):=by
  intro j hj
  obtain⟨ad3,hx3,ha3,hc3⟩:=hx.bool (x:=(j:Int)) (by omega) (by omega)
  refine⟨ad3,ha3, ?_⟩
  rw[hc3]
  have e:((j:Int)).toNat=j:=by omega
  simp [e]
 obtain⟨ad,ha,hc⟩:=hget f hf
 rw[decide_eq_true hkf,Bool.and_true]at hc
 refine⟨x,rfl,by omega,by omega,ad,ha,_,hc,aa (fun hm=>⟨by rw[hm],q2⟩) (fun hm=> ?_)⟩
 rw[hm]
 refine bh (k:= .int .i64) (fun(y:Int) V' =>V' =V2∧∃j:Nat,y=j∧j≤12) (fun(y:Int) _=>12-y.toNat) ⟨rfl,0,rfl,by omega⟩ ?_
 rintro(y:Int) V3 ⟨rfl,j,rfl,hj⟩
 refine aa (fun hlt=> ?_) (fun _=>⟨rfl,q2⟩)
 have hlt:j<12:=by have:=of_decide_eq_true hlt;omega
 obtain⟨ad2,sq2,en2,ha2,hc2,hN2⟩:=(h.mono q2).bO (i:=j) (by omega)
 refine⟨by omega,by omega,ad2,ha2,_,_,_,sq2,en2,hc2,fun _=> ?_⟩
 have hen:=hN2.az.n
 have helim:=hN2.az.lim
 refine bh (k:= .int .i64) (fun(y:Int) V' =>V' =V3∧∃m:Nat,y=m∧m≤(t.getD j default).az.length) (fun(y:Int) _=>(t.getD j default).az.length-y.toNat) ⟨rfl,0,rfl,by omega⟩ ?_
 rintro(y:Int) V4 ⟨rfl,m,rfl,hm4⟩
 refine aa (fun hltm=> ?_) (fun _=>⟨au (by omega) (by omega),⟨rfl,j+1,by omega,by omega⟩,by omega⟩)
 have hltm:m<(t.getD j default).az.length:=by have:=of_decide_eq_true hltm;omega
 obtain⟨ad3,ha3,hc3,_⟩:=hN2.az.lZ hltm
 obtain⟨ad4,ha4,hc4⟩:=hget j hlt
 refine⟨by omega,by omega,ad3,ha3,_,_,hc3,fun _=>⟨by omega,by omega,ad4,ha4,_,hc4,aa (fun hb=> ?_) (fun _=>⟨au (by omega) (by omega),⟨rfl,m+1,by omega,by omega⟩,by omega⟩)⟩⟩
 exfalso
 have hmem:(t.getD j default).az.getD m default∈ag t j:=by
  show(t.getD j default).az.getD m default∈(t.getD j default).az
  rw[aB hltm];exact List.getElem_mem _
 cases hmj:iV t i j with
 | false=>rw[hmj]at hb;cases hb
 | true=>
   have hq:=hF.ent hmem
   rw[hmj,decide_eq_true hq.2.1]at hb
   have hb:=of_decide_eq_true (show decide (((t.getD j default).az.getD m default).node=(f:Int))=true from hb)
   have:=Reach.step (fH.1 hmj) hmem
   rw[hb,Int.toNat_natCast]at this
   rw[fH.2 this]at hm;cases hm
end Go.Proofs.YtoogangnldppaaaGreatDoor
