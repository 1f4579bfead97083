/- Texts joined: RefCOk, RmOk, Rm2Ok, Rm3Ok, Rm4Ok, Rm5Ok, Rm6Ok, Awk22Ok, Plays22Ok, In, CalIn. -/
import Derived.Test.YtoogangnldppaaaGreatDoorPk4
import Derived.Test.YtoogangnldppaaaGreatDoorPk3
import Derived.Test.YtoogangnldppaaaGreatDoorPk1
set_option linter.unusedVariables false
/- The contract of the reference's Rename. -/
namespace Go.Proofs.YtoogangnldppaaaGreatDoor
open Go
theorem uY {s y:Sl} {t:Tre} {p q:ByteArray} {held:List Bool} {V:View} (h:SlR V s t) (hy:SlR V y held) (hp:p.size≤9223372036854775807) (hq' :q.size≤9223372036854775807):af Tryz.prog 82 ⟨[aZ s,.string p,.string q,.slice y.a y.n y.c]⟩ V fun r V' =>gH V V' r (cz t p q held):=by
 refine MH ?_
 unfold Hv
 have hn:=h.n
 refine fun _ _=>(eL h hp).mono ?_
 rintro r0 V1 ⟨rfl,hV1⟩
 cases hP:aH t p with
 | error e=>
   rw[←hP,jF hP]
   exact⟨_,_,_,rfl,aa (fun _=>bG (bS hP) hV1 (by unfold cz;rw[hP])) (fun h=>absurd (of_decide_eq_true (aD h)) (bS hP))⟩
 | ok z=>
   obtain⟨d,n⟩:=z
   obtain⟨ld,P⟩:=dz hP
   have hM:=P.may
   have hF:=bP hM
   have hd:=P.d12
   have h12:=hF.len
   rw[←hP,lC hP]
   obtain⟨ad,sq,en,ha,hc,hN⟩:=(h.mono hV1).bO (i:=d) (by omega)
   refine⟨_,_,_,rfl,aa (fun h=>absurd h (by decide)) (fun _=>⟨by omega,by omega,ad,ha,en,av hc 4 rfl,(gF hN.az).mono ?_⟩)⟩
   rintro r0 V2 ⟨rfl,rfl⟩
   have hi0:atI (t.getD d default).az n=atI (ag t d) n:=rfl
   rw[hi0]
   by_cases h0:atI (ag t d) n<0
   ·refine⟨_,rfl,aa (fun _=>bG (by decide) hV1 ?_) (fun h=>absurd h0 (of_decide_eq_false h))⟩
    unfold cz;rw[hP];dsimp only;rw[if_pos h0]
   obtain⟨k0,k1,k2,k3,xe,hxe,hxn,hxi⟩:=eY hM (d:=d) (s:=n) h0
   obtain⟨i,hi⟩:∃i:Nat,atI (ag t d) n=i:=⟨(atI (ag t d) n).toNat,by omega⟩
   rw[hi]at h0 k1 k2 k3 hxi ⊢
   rw[Int.toNat_natCast]at k3
   have hi12:i<12:=by omega
   refine⟨_,rfl,aa (fun h=>absurd (of_decide_eq_true h) h0) (fun _=>(eL (h.mono hV1) hq').mono ?_)⟩
   rintro r0 V3 ⟨rfl,hV3⟩
   have q3:=hV1.trans hV3
   cases hQ:aH t q with
   | error e=>
     rw[←hQ,jF hQ]
     refine⟨_,_,_,rfl,aa (fun _=>bG (bS hQ) q3 ?_) (fun h=>absurd (of_decide_eq_true (aD h)) (bS hQ))⟩
     unfold cz;rw[hP];dsimp only;rw[hi,if_neg h0,hQ]
   | ok z=>
     obtain⟨f,r⟩:=z
     obtain⟨lf,Q⟩:=dz hQ
     have hf:=Q.d12
     rw[←hQ,lC hQ]
     obtain⟨ad2,sq2,en2,ha2,hc2,hN2⟩:=(h.mono q3).bO (i:=f) (by omega)
     refine⟨_,_,_,rfl,aa (fun h=>absurd h (by decide)) (fun _=>⟨by omega,by omega,ad2,ha2,en2,av hc2 4 rfl,(gF hN2.az).mono ?_⟩)⟩
     rintro r0 V4 ⟨rfl,rfl⟩
     have hk0' :atI (t.getD f default).az r=atI (ag t f) r:=rfl
     rw[hk0']
     have hmv:=th P Q (held:=held) i
     have hE1:=ym P Q
     have hR:cz t p q held=if atI (ag t f) r=i then .ok t else if eF t i f=true then .error 17 else
       if 0≤atI (ag t f) r∧fy (t.getD i default) (t.getD (atI (ag t f) r).toNat default)≠0 then .error (fy (t.getD i default) (t.getD (atI (ag t f) r).toNat default))else
       if 10≤(ag (bM t d n i f r (atI (ag t f) r) held) f).length then .error 14 else
       .ok (aJ (bM t d n i f r (atI (ag t f) r) held) f (bu (ag (bM t d n i f r (atI (ag t f) r) held) f) ⟨r,i⟩)):=by
      unfold cz;rw[hP];dsimp only;rw[hi,if_neg h0,hQ];dsimp only;rw[Int.toNat_natCast]
     rw[hi]at hE1
     have hkat:=Q.at
     have hkk:0≤atI (ag t f) r→(atI (ag t f) r).toNat≠f:=fun h=>eG Q.may (by omega)
     have hkent:0≤atI (ag t f) r→ak t (atI (ag t f) r).toNat≠0∧∃ye∈ag t f,ye.node=atI (ag t f) r:=fun h=>by
      obtain⟨_,_,_,a,ye,b,_,c⟩:=eY Q.may (d:=f) (s:=r) (by omega)
      exact⟨a,ye,b,c⟩
     have hmoveE:bM t d n i f r (atI (ag t f) r) held=if 0≤atI (ag t f) r then cj (aJ (aJ t d (aI (ag t d) n)) f (aI (ag (aJ t d (aI (ag t d) n)) f) r)) (atI (ag t f) r).toNat held else aJ t d (aI (ag t d) n):=rfl
     generalize hk:atI (ag t f) r=k at*
     refine⟨_,rfl,aa (fun he=> ?_) (fun he=> ?_)⟩
     ·have he:=of_decide_eq_true he
      refine(cL (h.mono q3) (bU hM)).mono ?_
      rintro r0 V5 ⟨x,rfl,hO⟩
      rw[hR,if_pos he]
      exact⟨x,rfl,⟨x,0,rfl,rfl,hO.slR⟩,q3.trans hO.le⟩
     have he:=of_decide_eq_false he
     rw[if_neg he]at hR
     obtain⟨ad3,sq3,en3,ha3,hc3,hN3⟩:=(h.mono q3).bO (i:=i) (by omega)
     refine⟨by omega,by omega,ad3,ha3,_,av hc3 0 rfl,ai (fun g V' =>g.1=eF t i f∧V4.Le V') (aa (fun hb=>(uX (h.mono q3) hM hi12 hf (of_decide_eq_true hb) Q.kind).mono ?_) (fun hb=>⟨?_,View.Le.refl _⟩)) ?_⟩
     ·rintro r0 V5 ⟨rfl,hV5⟩
      exact⟨_,rfl,rfl,hV5⟩
     ·rw[kI hM hi12 hf]
      show false=(decide ((t.getD i default).kind=2)&&_)
      rw[hb];rfl
     rintro⟨g,⟨⟩⟩ V5 ⟨hg5,hV5⟩
     dsimp only [unc]at*
     have q5:=q3.trans hV5
     refine aa (fun hin=>bG (by decide) q5 (by rw[hR,if_pos (by rw[←hg5];exact hin)])) (fun hin=> ?_)
     rw[if_neg (by rw[←hg5,hin];decide)]at hR
     have hkn:0≤k→∃ad6 en6,∃sq6:Sl,s.a=some ad6∧aq V5 (ad6.add (k.toNat*5)) [.int .i64 (t.getD k.toNat default).kind,.int .i64 (t.getD k.toNat default).links,.int .i64 (t.getD k.toNat default).size,.slice sq6.a sq6.n sq6.c,.slice en6.a en6.n en6.c]∧(en6:Sl).n=(t.getD k.toNat default).az.length:=fun hk0=>by
      obtain⟨ad6,sq6,en6,ha6,hc6,hN6⟩:=(h.mono q5).bO (i:=k.toNat) (by omega)
      exact⟨ad6,en6,sq6,ha6,hc6,hN6.az.n⟩
     refine ai (fun g V' =>g.1=decide (0≤k∧(t.getD i default).kind=2∧(t.getD k.toNat default).kind≠2)∧V' =V5) (aa (fun hb=> ?_) (fun hb=>⟨?_,rfl⟩)) ?_
     ·have hk0:0≤k:=by
       cases hq:decide (0≤k)with
       | true=>exact of_decide_eq_true hq
       | false=>rw[hq]at hb;cases hb
      rw[decide_eq_true hk0]at hb
      have hb:(t.getD i default).kind=2:=of_decide_eq_true hb
      obtain⟨ad6,en6,sq6,ha6,hc6,_⟩:=hkn hk0
      refine⟨hk0,by clear hkn hkent;omega,ad6,ha6,_,av hc6 0 rfl, ?_,rfl⟩
      show(!decide _)=_
      by_cases h2:(t.getD k.toNat default).kind=2
      ·rw[decide_eq_true h2,decide_eq_false (fun h=>h.2.2 h2)];rfl
      ·rw[decide_eq_false h2,decide_eq_true ⟨hk0,hb,h2⟩];rfl
     ·rw[decide_eq_false]
      rintro⟨h1,h2,_⟩
      rw[decide_eq_true h1]at hb
      exact of_decide_eq_false hb h2
     rintro⟨g,⟨⟩⟩ V6 ⟨hg6,rfl⟩
     dsimp only [unc]at*
     refine aa (fun hb=>bG (by decide) q5 ?_) (fun hb=> ?_)
     ·rw[hg6]at hb
      have hb:=of_decide_eq_true hb
      have:fy (t.getD i default) (t.getD k.toNat default)=11:=by unfold fy;rw[if_pos hb.2]
      rw[hR,this,if_pos ⟨hb.1,by decide⟩]
     rw[hg6]at hb
     have hc1:=of_decide_eq_false hb
     refine ai (fun g V' =>g.1=decide (0≤k∧(t.getD i default).kind≠2∧(t.getD k.toNat default).kind=2)∧V' =V6) (aa (fun hb=> ?_) (fun hb=>⟨?_,rfl⟩)) ?_
     ·have hk0:0≤k:=by
       cases hq:decide (0≤k)with
       | true=>exact of_decide_eq_true hq
       | false=>rw[hq]at hb;cases hb
      rw[decide_eq_true hk0]at hb
      have hb:¬(t.getD i default).kind=2:=of_decide_eq_false (aM hb)
      obtain⟨ad6,en6,sq6,ha6,hc6,_⟩:=hkn hk0
      refine⟨hk0,by clear hkn hkent;omega,ad6,ha6,_,av hc6 0 rfl, ?_,rfl⟩
      exact decide_eq_decide.2 ⟨fun h=>⟨hk0,hb,h⟩,fun h=>h.2.2⟩
     ·rw[decide_eq_false]
      rintro⟨h1,h2,_⟩
      rw[decide_eq_true h1]at hb
      exact h2 (of_decide_eq_true (aD hb))
     rintro⟨g,⟨⟩⟩ V7 ⟨hg7,rfl⟩
     dsimp only [unc]at*
     refine aa (fun hb=>bG (by decide) q5 ?_) (fun hb=> ?_)
     ·rw[hg7]at hb
      have hb:=of_decide_eq_true hb
      have:fy (t.getD i default) (t.getD k.toNat default)=10:=by unfold fy;rw[if_neg (fun h=>hb.2.1 h.1),if_pos hb.2]
      rw[hR,this,if_pos ⟨hb.1,by decide⟩]
     rw[hg7]at hb
     have hc2' :=of_decide_eq_false hb
     refine ai (fun g V' =>g.1=decide (0≤k∧(t.getD i default).kind=2∧0<(t.getD k.toNat default).az.length)∧V' =V7) (aa (fun hb=> ?_) (fun hb=>⟨?_,rfl⟩)) ?_
     ·have hk0:0≤k:=by
       cases hq:decide (0≤k)with
       | true=>exact of_decide_eq_true hq
       | false=>rw[hq]at hb;cases hb
      rw[decide_eq_true hk0]at hb
      have hb:(t.getD i default).kind=2:=of_decide_eq_true hb
      obtain⟨ad6,en6,sq6,ha6,hc6,hen6⟩:=hkn hk0
      refine⟨hk0,by clear hkn hkent;omega,ad6,ha6,en6,av hc6 4 rfl, ?_,rfl⟩
      exact decide_eq_decide.2 ⟨fun h=>⟨hk0,hb,by clear hkn hkent;omega⟩,fun h=>by have:=h.2.2;clear hkn hkent;omega⟩
     ·rw[decide_eq_false]
      rintro⟨h1,h2,_⟩
      rw[decide_eq_true h1]at hb
      exact of_decide_eq_false hb h2
     rintro⟨g,⟨⟩⟩ V8 ⟨hg8,rfl⟩
     dsimp only [unc]at*
     refine aa (fun hb=>bG (by decide) q5 ?_) (fun hb=> ?_)
     ·rw[hg8]at hb
      have hb:=of_decide_eq_true hb
      have:fy (t.getD i default) (t.getD k.toNat default)=12:=by
       unfold fy
       rw[if_neg (fun h=>hc1 ⟨hb.1,h⟩),if_neg (fun h=>h.1 hb.2.1),if_pos hb.2.2]
      rw[hR,this,if_pos ⟨hb.1,by decide⟩]
     rw[hg8]at hb
     have hc3' :=of_decide_eq_false hb
     have hrep:0≤k→fy (t.getD i default) (t.getD k.toNat default)=0:=fun hk0=>by
      unfold fy
      rw[if_neg (fun h=>hc1 ⟨hk0,h⟩),if_neg (fun h=>hc2' ⟨hk0,h⟩),if_neg]
      intro hl
      by_cases h2:(t.getD i default).kind=2
      ·exact hc3' ⟨hk0,h2,hl⟩
      ·have hk2:ak t k.toNat≠2:=fun h=>hc2' ⟨hk0,h2,h⟩
       have:=fA hF (i:=k.toNat) (by(try clear hkn hkent);omega) hk2
       unfold ag at this
       rw[this]at hl
       simp at hl
     rw[if_neg (fun h=>h.2 (hrep h.1))]at hR
     refine(cL (h.mono q5) (bU hM)).mono ?_
     rintro r0 V9 ⟨x,rfl,hO⟩
     have q9:=q5.trans hO.le
     have hxn9:=hO.n
     obtain⟨ad7,sq7,en7,ha7,hc7,hN7,_⟩:=hO.ji (i:=d) (by(try clear hkn hkent);omega)
     refine⟨x,rfl,fun _=>⟨trivial,V9,View.Le.refl _,by(try clear hkn hkent);omega,by(try clear hkn hkent);omega,ad7,ha7,en7,av hc7 4 rfl,(hO.call (gy hN7.az)).mono ?_⟩⟩
     rintro r0 V10 ⟨U10,⟨z,e,rfl,hz⟩,hU10,hV10,hO10⟩
     have hwd:=fz P (by rw[hi];exact h0)
     have hwd:dy (t.getD d default).az n= .ok (aI (ag t d) n):=hwd
     rw[hwd]at hz
     obtain⟨rfl,hz⟩:=hz
     obtain⟨ad8,ha8,c1,c2⟩:=jG hO10 (d:=d) (by(try clear hkn hkent);omega) (hz.mono hU10)
     refine⟨z,_,rfl,hV10,by(try clear hkn hkent);omega,by(try clear hkn hkent);omega,ad8,ha8,c1, ?_⟩
     have q11:=q5.trans c2.le
     have hln:(aJ t d (aI (ag t d) n)).length=12:=by rw[aE,h12]
     generalize hV11:V10.sets ((ad8.add (((d:Int)).toNat*5)).add 4) [.slice z.a z.n z.c]=V11 at*
     have c2:cD V8 V11 x (aJ t d (aI (ag t d) n)):=by rw[←hV11];exact c2
     have hxn11:=c2.n
     refine ai (fun _ V' =>cD V8 V' x (bM t d n i f r k held)) (aa (fun hk0=> ?_) (fun hk0=> ?_)) ?_
     ·have hk0:=of_decide_eq_true hk0
      have hkf:=hkk hk0
      have hw:dy (ag (aJ t d (aI (ag t d) n)) f) r= .ok (aI (ag (aJ t d (aI (ag t d) n)) f) r):=by
       have e1:ag (aJ t d (aI (ag t d) n)) f=E1 t d n f:=by rw[cP (by(try clear hkn hkent);omega)];rfl
       rw[e1]
       exact iX (oq P Q) (by rw[hE1 he,decide_eq_true hk0])
      obtain⟨ad12,sq12,en12,ha12,hc12,hN12,_⟩:=c2.ji (i:=f) (by(try clear hkn hkent);omega)
      refine⟨trivial,V11,View.Le.refl _,by(try clear hkn hkent);omega,by(try clear hkn hkent);omega,ad12,ha12,en12,av hc12 4 rfl,(c2.call (gy hN12.az)).mono ?_⟩
      rintro r0 V12 ⟨U12,⟨z2,e2,rfl,hz2⟩,hU12,hV12,hO12⟩
      have hw' :dy ((aJ t d (aI (ag t d) n)).getD f default).az r= .ok (aI (ag (aJ t d (aI (ag t d) n)) f) r):=hw
      rw[hw']at hz2
      obtain⟨rfl,hz2⟩:=hz2
      obtain⟨ad13,ha13,d1,d2⟩:=jG hO12 (d:=f) (by(try clear hkn hkent);omega) (hz2.mono hU12)
      have hxn13:=d2.n
      rw[aE]at hxn13
      refine⟨z2,_,rfl,hV12,by(try clear hkn hkent);omega,by(try clear hkn hkent);omega,ad13,ha13,d1,ai (fun _ V' =>cD V8 V' x (bM t d n i f r k held)) (aa (fun hdir=> ?_) (fun hdir=> ?_)) ?_⟩
      ·have hdir:(t.getD i default).kind=2:=of_decide_eq_true hdir
       have hk2:(t.getD k.toNat default).kind=2:=Classical.byContradiction fun h=>hc1 ⟨hk0,hdir,h⟩
       have hemp:(t.getD k.toNat default).az= []:=List.eq_nil_of_length_eq_zero (by
        apply Classical.byContradiction
        intro h
        exact hc3' ⟨hk0,hdir,by(try clear hkn hkent);omega⟩)
       have hkd:k.toNat≠d:=fun e=>by
        have:xe∈(t.getD d default).az:=hxe
        rw[←e,hemp]at this;cases this
       obtain⟨ad14,ha14,b1,b2⟩:=d2.set (i:=k.toNat) (by rw[aE];omega) (n:=Nod.zero) (vs:= [.int .i64 0,.int .i64 0,.int .i64 0,.slice none 0 0,.slice none 0 0]) fun _ _=>ie
       refine⟨hk0,by(try clear hkn hkent);omega,ad14,ha14,b1, ?_⟩
       have e3:bM t d n i f r k held=(aJ (aJ t d (aI (ag t d) n)) f (aI (ag (aJ t d (aI (ag t d) n)) f) r)).set k.toNat Nod.zero:=by
        rw[hmoveE,if_pos hk0]
        unfold cj
        rw[if_neg]
        rintro⟨h1,_⟩
        unfold ak at h1
        rw[cK hkf,cK hkd]at h1
        omega
       rw[e3];exact b2
      ·have hdir:¬(t.getD i default).kind=2:=of_decide_eq_false hdir
       have hk1:(t.getD k.toNat default).kind=1:=by
        have a1:=fI (hF.at (i:=k.toNat) (by(try clear hkn hkent);omega))
        have a2:(t.getD k.toNat default).kind≠0:=(hkent hk0).1
        have a3:¬(t.getD k.toNat default).kind=2:=fun h=>hc2' ⟨hk0,hdir,h⟩
        omega
       have hkd:k.toNat≠d:=fun e=>by
        have:(t.getD d default).kind=2:=P.kind
        rw[←e]at this;omega
       have hl1:1≤(t.getD k.toNat default).links:=by
        have h1:=hF.file k.toNat (by(try clear hkn hkent);omega) hk1
        obtain⟨_,ye,h2,h3⟩:=hkent hk0
        have:=ic (x:=((k.toNat:Nat):Int)) h2 (by(try clear hkn hkent);omega)
        omega
       have e1:(aJ (aJ t d (aI (ag t d) n)) f (aI (ag (aJ t d (aI (ag t d) n)) f) r)).getD k.toNat default=t.getD k.toNat default:=by rw[cK hkf,cK hkd]
       have hkn1:1≤k:=by(try clear hkn hkent);omega
       rw[pN hkn1]
       refine(rG d2 (i:=k.toNat) (by rw[aE];clear hkn hkent;omega) (by unfold ak;rw[e1];exact hk1) (by rw[e1];exact hl1) (hy.mono q5)).mono ?_
       rintro r0 V14 ⟨rfl,h14⟩
       refine⟨rfl, ?_⟩
       rw[hmoveE,if_pos hk0];exact h14
      ·rintro⟨⟩ V14 h14;exact h14
     ·have hk0:=of_decide_eq_false hk0
      rw[hmoveE,if_neg hk0];exact c2
     ·rintro⟨⟩ V12 h12'
      have h12' :cD V8 V12 x (bM t d n i f r k held):=h12'
      have hmay:bZ (ag (bM t d n i f r k held) f)=true:=by
       rw[hmv];split
       ·exact jz (oq P Q) r
       ·exact oq P Q
      have hhas:eT (ag (bM t d n i f r k held) f) r=false:=by
       rw[hmv];split
       ·exact uF _ _
       ·rename_i hk0;rw[hE1 he,decide_eq_false hk0]
      have hwith:fS (ag (bM t d n i f r k held) f) ⟨r,i⟩=if 10≤(ag (bM t d n i f r k held) f).length then .error 14 else .ok (bu (ag (bM t d n i f r k held) f) ⟨r,i⟩):=by
       rw[jU hmay (pP Q.uG (by(try clear hkn hkent);omega) hi12),if_neg (by show ¬eT _ r=true;rw[hhas];decide)]
      have hxn12:=h12'.n
      rw[nC]at hxn12
      have hrlen:=Q.size
      obtain⟨ad15,sq15,en15,ha15,hc15,hN15,_⟩:=h12'.ji (i:=f) (by rw[nC];omega)
      refine⟨by(try clear hkn hkent);omega,by(try clear hkn hkent);omega,ad15,ha15,en15,av hc15 4 rfl,(h12'.call (mL hN15.az (by(try clear hkn hkent);omega) (au (by(try clear hkn hkent);omega) (by(try clear hkn hkent);omega)))).mono ?_⟩
      rintro r0 V16 ⟨U16,⟨z3,e3,rfl,hz3⟩,hU16,hV16,hO16⟩
      have q16:=q5.trans hO16.le
      have hwith:fS ((bM t d n i f r k held).getD f default).az ⟨r,(i:Int)⟩=if 10≤(ag (bM t d n i f r k held) f).length then .error 14 else .ok (bu (ag (bM t d n i f r k held) f) ⟨r,i⟩):=hwith
      rw[hwith]at hz3
      by_cases hfull:10≤(ag (bM t d n i f r k held) f).length
      ·rw[if_pos hfull]at hR hz3
       obtain⟨rfl,_⟩:=hz3
       exact⟨z3,_,rfl,aa (fun _=>bG (by decide) q16 hR) (fun h=>absurd h (by decide))⟩
      ·rw[if_neg hfull]at hR hz3
       obtain⟨rfl,hz3⟩:=hz3
       obtain⟨ad17,ha17,f1,f2⟩:=jG hO16 (d:=f) (by rw[nC];omega) (hz3.mono hU16)
       rw[hR]
       exact⟨z3,_,rfl,aa (fun h=>absurd h (by decide)) (fun _=>⟨by(try clear hkn hkent);omega,by(try clear hkn hkent);omega,ad17,ha17,f1,⟨x,0,rfl,rfl,f2.slR⟩,q5.trans f2.le⟩)⟩
structure gV (V0 V:View) (q:Nat) (m:bQ) (s hs:Sl) (bs:List Value) (B:List (List UInt8)):Prop where
 box:V.see q=some (.cells ⟨[.int .i64 m.data,.slice s.a s.n s.c,.slice hs.a hs.n hs.c,.int .i64 m.seq]++bs⟩ 56 (0,0))
 tre:SlR V0 s m.t
 bW:SlR V0 hs m.h
 rows:aR V0 bs B
 len:B.length=60
 aS:∀i p,i<12→p<5→(m.t.getD i default).an.getD p 0≠0→B.getD (i*5+p) []=pgP m.P ((m.t.getD i default).an.getD p 0)
structure pE (V0 V:View) (q:Nat) (m:bQ):Prop where
 le:V0.Le V
 nq:V0.see q=none
 ex:∃(s hs:Sl) (bs:List Value) (B:List (List UInt8)),gV V0 V q m s hs bs B
theorem gV.stp {B:Nat→Prop} {V0 V V0' V' :View} {q:Nat} {m:bQ} {s hs:Sl} {bs:List Value} {C:List (List UInt8)} (h:gV V0 V q m s hs bs C) (k:Mv B V0 V V0' V') (h1:¬B q):gV V0' V' q m s hs bs C:=
 ⟨k.rest _ _ h1 h.box,h.tre.mono k.base,h.bW.mono k.base,h.rows.mono k.base,h.len,h.aS⟩
theorem gV.grow {V0 V V0' V' :View} {q:Nat} {m:bQ} {s hs:Sl} {bs:List Value} {C:List (List UInt8)} (h:gV V0 V q m s hs bs C) (k:V0.Le V0') (hV:V.Le V'):gV V0' V' q m s hs bs C:=
 ⟨hV.see _ _ h.box,h.tre.mono k,h.bW.mono k,h.rows.mono k,h.len,h.aS⟩
theorem pE.stp {B:Nat→Prop} {V0 V V0' V' :View} {q:Nat} {m:bQ} (h:pE V0 V q m) (k:Mv B V0 V V0' V') (h1:¬B q):pE V0' V' q m:=by
 obtain⟨s,hs,bs,C,hc⟩:=h.ex
 exact⟨k.sub,k.apart _ h.nq (by rw[hc.box];simp),s,hs,bs,C,hc.stp k h1⟩
theorem gM {m:bQ} {c:Cal} {d:Dee} (h:aK m c=d) (hl:d.todo= []):doP m c=⟨m.data,d.t,d.h,m.P,m.seq⟩∧cv m c= !decide (d.t=m.t):=by
 unfold doP cv
 rw[h,hl]
 refine⟨?_,rfl⟩
 show(⟨m.data,d.t,d.h,m.P,m.seq+0⟩:bQ)=_
 rw[Int.add_zero]
theorem yQ {m:bQ} {c:Cal} {e:Int} (h:bH m c= .error e):aK m c=⟨m.t,m.h,[],Ans.e e⟩:=by unfold aK;rw[h]
theorem cA {m:bQ} {c:Cal} {d:Dee} (h:bH m c= .ok d):aK m c=d:=by unfold aK;rw[h]
theorem pQ {m:bQ} {c:Cal} {e:Int} (h:bH m c= .error e):doP m c=m∧cv m c=false∧(aK m c).a=Ans.e e:=by
 have hp:=yQ h
 obtain⟨h1,h2⟩:=gM hp rfl
 exact⟨h1,by rw[h2];simp,by rw[hp]⟩
def AH (V0 V V' :View) (q:Nat) (r:Value) (m:bQ) (a:Ans) (w:Bool):Prop:=∃V0',Mv (fun i=>i=q) V0 V V0' V' ∧pE V0' V' q m∧∃x,F2 V0' x a∧r= .tuple ⟨[x,.bool w]⟩
def Nc (V0 V V' :View) (q:Nat) (r:Value) (m:bQ) (a:Ans):Prop:=∃V0',Mv (fun i=>i=q) V0 V V0' V' ∧pE V0' V' q m∧F2 V0' r a
theorem yR {W:View} (e:Int):F2 W (.agg ⟨[.int .i64 e,.int .i64 0,.int .i64 0,.int .i64 0,.int .i64 0,.slice none 0 0,.slice none 0 0]⟩) (Ans.e e):=⟨⟨none,0,0⟩,⟨none,0,0⟩,rfl,SlR.nil _ _ _,SlR.nil _ _ _⟩
theorem rH {W W' :View} :∀ {cs:List Value} {l:List ByteArray},aR W cs l→aR W' cs l
 | _,[],h=>h
 | _,_::_,⟨vs,us,e,h1,h2⟩=>⟨vs,us,e,h1,rH h2⟩
section
variable {V0 V:View} {q:Nat} {m:bQ} {c:Cal} {y:Sl} {s hs:Sl} {bs:List Value} {B:List (List UInt8)}
theorem gV.bsl (h:gV V0 V q m s hs bs B):bs.length=60:=by
 have:=h.rows.len
 rw[h.len]at this
 exact this
theorem gV.tree {u:Tre} (h:gV V0 V q m s hs bs B) (hle:V0.Le V) (hn:V0.see q=none) {x:Sl} (hx:SlR V0 x u) (hp:∀i p,(u.getD i default).an.getD p 0=0∨(u.getD i default).an.getD p 0=(m.t.getD i default).an.getD p 0):
  ay V ((⟨q,0,none⟩:Addr).add 1) 1∧gV V0 (V.sets ((⟨q,0,none⟩:Addr).add 1) [.slice x.a x.n x.c]) q ⟨m.data,u,m.h,m.P,m.seq⟩ x hs bs B∧Mv (fun i=>i=q) V0 V V0 (V.sets ((⟨q,0,none⟩:Addr).add 1) [.slice x.a x.n x.c]):=by
 have hb:=h.bsl
 rw[bxe h.box]
 refine⟨bxc h.box 1 1 (by simp),⟨View.ah _ _ _,hx,h.bW,h.rows,h.len,fun i p hi hp5 hne=> ?_⟩,Mv.put _ hle hn (.inl rfl)⟩
 rcases hp i p with e | e
 ·exact absurd e hne
 ·show B.getD _ []=pgP m.P ((u.getD i default).an.getD p 0)
  rw[e]
  exact h.aS i p hi hp5 (by rw[←e];exact hne)
theorem gV.rI {h' :List Int} (h:gV V0 V q m s hs bs B) (hle:V0.Le V) (hn:V0.see q=none) {x:Sl} (hx:SlR V0 x h'):
  ay V ((⟨q,0,none⟩:Addr).add 2) 1∧gV V0 (V.sets ((⟨q,0,none⟩:Addr).add 2) [.slice x.a x.n x.c]) q ⟨m.data,m.t,h',m.P,m.seq⟩ s x bs B∧Mv (fun i=>i=q) V0 V V0 (V.sets ((⟨q,0,none⟩:Addr).add 2) [.slice x.a x.n x.c]):=by
 have hb:=h.bsl
 rw[bxe h.box]
 exact⟨bxc h.box 2 1 (by simp),⟨View.ah _ _ _,h.tre,hx,h.rows,h.len,h.aS⟩,Mv.put _ hle hn (.inl rfl)⟩
theorem mM (h:gV V0 V q m s hs bs B) (hle:V0.Le V) (hM:aY m.t=true) (h16:∀k b,m.P k=some b→b.length=16) {i p:Int} (hi0:0≤i) (hi:i<12) (hp0:0≤p) (hp:p<5) (hk:ak m.t i.toNat=1):
  af Tryz.prog 58 ⟨[.pointer (some ⟨q,0,none⟩),.int .i64 i,.int .i64 p]⟩ V fun r V' =>∃z:Sl,r= .slice z.a z.n z.c∧SlR V' z (pgP m.P ((m.t.getD i.toNat default).an.getD p.toNat 0))∧V.Le V' :=by
 refine Mm ?_
 unfold G1
 have h12:=(bP hM).len
 have h5:=(bN ((bP hM).at (show i.toNat<12 by omega)) hk).2.2.2.2.1
 refine⟨by decide,by decide,by decide,by decide,fun r hr=> ?_⟩
 have hfr:=View.ax hr
 have hP:=View.bB (o:= .cells ⟨u8s fO⟩ 5 (0,0)) hfr
 have hs0:(V.put r (.cells ⟨u8s fO⟩ 5 (0,0))).see r=some (.cells ⟨u8s fO⟩ 5 (0,0)):=View.ah _ _ _
 obtain⟨ad,sq,en,ha,hcc,hN⟩:=(h.tre.mono (hle.trans hP)).bO (i:=i.toNat) (by omega)
 have hsn:=h.tre.n
 have hsqn:=hN.an.n
 obtain⟨ad2,ha2,hc2,_⟩:=hN.an.fD (i:=p.toNat) (by omega)
 refine⟨_,rfl,s,by rw[Addr.add_add];exact bx (hP.see _ _ h.box) 1 rfl,hi0,by omega,ad,ha,sq,av hcc 3 rfl,hp0,by omega,ad2,ha2,_,hc2, ?_⟩
 refine ai (fun _ V' =>∃l:List UInt8,l=pgP m.P ((m.t.getD i.toNat default).an.getD p.toNat 0)∧l.length=16∧V'.see r=some (.cells ⟨u8s l⟩ 5 (0,0))∧V.Le V') (aa (fun hb=> ?_) (fun hb=> ?_)) ?_
 ·have hb:=of_decide_eq_false (aM hb)
  have hpg:=h.aS i.toNat p.toNat (by omega) (by omega) hb
  have hl16:(B.getD (i.toNat*5+p.toNat) []).length=16:=by rw[hpg];exact nJ h16 _
  have hlen:=h.len
  obtain⟨vs,⟨z,rfl,hz⟩,hg⟩:=h.rows.get (i.toNat*5+p.toNat) (by omega)
  have e0:B.getD (i.toNat*5+p.toNat) []=B[i.toNat*5+p.toNat]:=by rw[List.getD_eq_getElem?_getD,List.getElem?_eq_getElem (by omega)];rfl
  rw[←e0]at hz
  have hzn:=hz.n
  have hbs:([Value.int .i64 m.data,.slice s.a s.n s.c,.slice hs.a hs.n hs.c,.int .i64 m.seq]++bs)[4+(i.toNat*5+p.toNat*1)]? =some (.slice z.a z.n z.c):=by
   have h0:=hg 0 _ rfl
   rw[List.getElem?_append_right (by simp only [List.length_cons,List.length_nil];omega)]
   rw[←h0]
   congr 1
   simp only [List.length_cons,List.length_nil]
   show _=(i.toNat*5+p.toNat)*1+0
   omega
  refine⟨_,rfl,hi0,hi,hp0,hp,z,by rw[Addr.add_add,Addr.add_add];exact bx (hP.see _ _ h.box) _ hbs,u8s (B.getD (i.toNat*5+p.toNat) []), ?_,uj _,bJ hs0 (by rw[eW,eW,hl16];decide),B.getD (i.toNat*5+p.toNat) [],hpg,hl16, ?_, ?_⟩
  ·have:=(hz.mono (hle.trans hP)).FE
   rw[show min z.n 16=z.n by omega]
   exact this
  ·show((V.put r (.cells ⟨u8s fO⟩ 5 (0,0))).sets ⟨r,0,none⟩ (u8s (B.getD (i.toNat*5+p.toNat) []))).see r=_
   rw[bn hs0,View.ah,gv _ _ _ (by rw[eW,eW,hl16];decide)]
   rw[List.take_zero,List.nil_append,Nat.zero_add,List.drop_of_length_le (by rw[eW,eW,hl16];decide),List.append_nil]
  ·show V.Le ((V.put r (.cells ⟨u8s fO⟩ 5 (0,0))).sets ⟨r,0,none⟩ (u8s (B.getD (i.toNat*5+p.toNat) [])))
   rw[bn hs0]
   exact(aT hfr (View.Le.refl _)).trans (ku r _)
 ·have hb:=of_decide_eq_true (aD hb)
  refine⟨fO, ?_,rfl,hs0,hP⟩
  unfold pgP;rw[if_pos hb]
 rintro⟨⟩ V1 ⟨l,rfl,hl,hs1,hV1⟩
 refine⟨⟨some ⟨r,0,none⟩,16,16⟩,rfl, ?_,hV1⟩
 have:=bK (te:=5) (W:=V1) (l:=pgP m.P ((m.t.getD i.toNat default).an.getD p.toNat 0)) hs1 (cV _) (View.Le.refl _) (by rw[hl];omega)
 rw[hl]at this
 exact this
theorem xl (h:gV V0 V q m s hs bs B) (hle:V0.Le V) (hn:V0.see q=none) (hO:OkH m) (hc:kQ V0 y c) (hk16:1≤c.kind∧c.kind≤6):
  af Tryz.prog 49 ⟨[.pointer (some ⟨q,0,none⟩),q8 c y]⟩ V fun r V' =>AH V0 V V' q r (doP m c) (aK m c).a (cv m c):=by
 refine Me ?_
 unfold GS
 refine fun _ _ _=>⟨_,rfl,hs,bx h.box 2 rfl, ?_⟩
 refine(af.stp (B:=fun i=>i=q) (K:=fun r V' =>∃x:Sl,r= .slice x.a x.n x.c∧SlR V' x (de m.h)) hle ((q6 h.bW).mono fun r V' ⟨x,h1,h2,h3⟩=>⟨⟨x,h1,h2⟩,h3⟩)).mono ?_
 rintro r V1 ⟨V01,⟨x,rfl,hx⟩,hS1,hV1⟩
 have h1:=h.grow hS1.base hV1
 have hc1:=hc.mono hS1.base
 have hP:bH m c=match cr m c with
   | .error e=> .error e
   | .ok t=> .ok ⟨t,m.h,[],Ans.e 0⟩:=by unfold bH;rw[if_pos hk16];try (cases cr m c<;>rfl)
 let J:Int→Sl→View→Prop:=fun e x V' =>∃V04,Mv (fun i=>i=q) V01 V1 V04 V' ∧V1.Le V' ∧match cr m c with
  | .error e' =>e=e' ∧e' ≠0
  | .ok u=>e=0∧SlR V04 x u
 have fin:∀ {f:FuncId} {args:Array Value} {o:Except Int Tre},cr m c=o→af Tryz.prog f args V01 (fun r V' =>gH V01 V' r o)→af Tryz.prog f args V1 fun r V2=>∃(x:Sl) (e:Int),r= .tuple ⟨[.agg ⟨[.slice x.a x.n x.c]⟩,.int .i64 e]⟩∧J e x V2:=by
  intro f args o ho hcall
  refine(af.stp (B:=fun i=>i=q) (K:=fun r V' =>gH V01 V' r o) hS1.sub (hcall.mono fun r V' h=>⟨h,h.2⟩)).mono ?_
  rintro r V2 ⟨V02,⟨⟨x,e,rfl,hx⟩,_⟩,hS2,hV2⟩
  refine⟨x,e,rfl,V02,hS2,hV2, ?_⟩
  rw[ho]
  cases o with
  | error e' =>exact⟨hx.1,hx.2.1⟩
  | ok u=>exact hx
 have hcell:=bx1 h1.box 1 rfl
 refine⟨x,rfl,ai (fun z V' =>J z.1 z.2.1 V') (aa (fun hk=> ?_) (fun hk=> ?_)) ?_⟩
 ·exact⟨trivial,V1,View.Le.refl _,_,rfl,s,hcell,(fin (by unfold cr;rw[if_pos (of_decide_eq_true hk)]) (uV h1.tre hc.path)).mono fun r V2 h=>h⟩
 ·refine ai (fun z V' =>J z.1 z.2.1 V') (aa (fun hk2=> ?_) (fun hk2=> ?_)) (by rintro⟨e,x,⟨⟩⟩ V' h;exact h)
  ·exact⟨trivial,V1,View.Le.refl _,_,rfl,s,hcell,(fin (by unfold cr;rw[if_neg (of_decide_eq_false hk),if_pos (of_decide_eq_true hk2)]) (xj h1.tre hc.path)).mono fun r V2 h=>h⟩
  ·refine ai (fun z V' =>J z.1 z.2.1 V') (aa (fun hk3=> ?_) (fun hk3=> ?_)) (by rintro⟨e,x,⟨⟩⟩ V' h;exact h)
   ·exact⟨trivial,V1,View.Le.refl _,_,rfl,s,hcell,(fin (by unfold cr;rw[if_neg (of_decide_eq_false hk),if_neg (of_decide_eq_false hk2),if_pos (of_decide_eq_true hk3)]) (uW h1.tre hx hc.path)).mono fun r V2 h=>h⟩
   ·refine ai (fun z V' =>J z.1 z.2.1 V') (aa (fun hk4=> ?_) (fun hk4=> ?_)) (by rintro⟨e,x,⟨⟩⟩ V' h;exact h)
    ·exact⟨trivial,V1,View.Le.refl _,_,rfl,s,hcell,(fin (by unfold cr;rw[if_neg (of_decide_eq_false hk),if_neg (of_decide_eq_false hk2),if_neg (of_decide_eq_false hk3),if_pos (of_decide_eq_true hk4)]) (xk h1.tre hc.path)).mono fun r V2 h=>h⟩
    ·refine ai (fun z V' =>J z.1 z.2.1 V') (aa (fun hk5=> ?_) (fun hk5=> ?_)) (by rintro⟨e,x,⟨⟩⟩ V' h;exact h)
     ·exact⟨trivial,V1,View.Le.refl _,_,rfl,s,hcell,(fin (by unfold cr;rw[if_neg (of_decide_eq_false hk),if_neg (of_decide_eq_false hk2),if_neg (of_decide_eq_false hk3),if_neg (of_decide_eq_false hk4),if_pos (of_decide_eq_true hk5)]) (uY h1.tre hx hc.path hc.to_)).mono fun r V2 h=>h⟩
     ·exact⟨trivial,V1,View.Le.refl _,_,rfl,s,hcell,(fin (by unfold cr;rw[if_neg (of_decide_eq_false hk),if_neg (of_decide_eq_false hk2),if_neg (of_decide_eq_false hk3),if_neg (of_decide_eq_false hk4),if_neg (of_decide_eq_false hk5)]) (yO h1.tre hc.path hc.to_)).mono fun r V2 h=>h⟩
 rintro⟨e,x,⟨⟩⟩ V2 ⟨V02,hS2,hV2,hx⟩
 dsimp only [unc]
 have h2:=h1.grow hS2.base hV2
 have hS12:=hS1.trans hS2
 have hn2:V02.see q=none:=hS12.apart _ hn (by rw[h.box];simp)
 cases hnm:cr m c with
 | error e' =>
   rw[hnm]at hx hP
   obtain⟨he,hne⟩:=hx
   have he:e=e' :=he
   subst he
   obtain⟨d1,d2,d3⟩:=pQ hP
   rw[d1,d2,d3]
   exact aa (fun _=>⟨V02,hS12,⟨hS12.sub,hn2,s,hs,bs,B,h2⟩,_,yR e,rfl⟩) (fun h=>absurd (of_decide_eq_true (aD h)) hne)
 | ok u=>
   rw[hnm]at hx hP
   obtain⟨he,hx⟩:=hx
   have he:e=0:=he
   have hx:SlR V02 x u:=hx
   subst he
   have hpl:=cA hP
   obtain⟨d1,d2⟩:=gM hpl rfl
   rw[d1,d2,hpl]
   refine aa (fun h=>absurd h (by decide)) (fun _=>⟨trivial,V2,View.Le.refl _,_,rfl,s,bx1 h2.box 1 rfl,(kJ (h2.tre.mono hS2.sub) (hx.mono hS2.sub)).mono ?_⟩)
   rintro r V3 ⟨rfl,rfl⟩
   obtain⟨c1,c2,c3⟩:=h2.tree hS2.sub hn2 hx (rE hO hnm).pos
   refine⟨_,rfl,_,rfl,c1,V02,hS12.trans c3,⟨c3.sub,hn2,x,hs,bs,B,c2⟩,_,yR 0, ?_⟩
   rw[decide_eq_decide.2 (show u=m.t↔m.t=u from⟨Eq.symm,Eq.symm⟩)]
end
section
variable {V0 V:View} {q:Nat} {m:bQ} {c:Cal} {y:Sl} {s hs:Sl} {bs:List Value} {B:List (List UInt8)}
theorem xm (h:gV V0 V q m s hs bs B) (hle:V0.Le V) (hn:V0.see q=none) (hO:OkH m) (hc:kQ V0 y c) (hk79:7≤c.kind∧c.kind≤9):
  af Tryz.prog 50 ⟨[.pointer (some ⟨q,0,none⟩),q8 c y]⟩ V fun r V' =>Nc V0 V V' q r (doP m c) (aK m c).a∧cv m c=false:=by
 refine Mf ?_
 unfold GU
 have hM:=hO.may
 refine fun _ _=>⟨trivial,V,View.Le.refl _,_,rfl,s,bx1 h.box 1 rfl, ?_⟩
 refine(af.stp (B:=fun i=>i=q) (K:=fun r V' =>r=we (b8 m.t c.path)) hle (rF h.tre hc.path)).mono ?_
 rintro r V1 ⟨V01,rfl,hS1,hV1⟩
 have h1:=h.grow hS1.base hV1
 have hn1:V01.see q=none:=hS1.apart _ hn (by rw[h.box];simp)
 have hD:bH m c=gr m c:=by unfold bH;rw[if_neg (by omega),if_pos hk79]
 have hP:gr m c=match b8 m.t c.path with
  | .error e=> .error e
  | .ok i=>if c.kind=7 then .ok ⟨m.t,m.h,[],⟨0,0,(m.t.getD i default).size,(m.t.getD i default).kind,(m.t.getD i default).links,[],[]⟩⟩else
        if c.kind=8∧(m.t.getD i default).kind≠2 then .error 11 else
        if c.kind=8 then .ok ⟨m.t,m.h,[],⟨0,0,0,0,0,[],(m.t.getD i default).az.map Ent.name⟩⟩else
        if(m.t.getD i default).kind=2 then .error 10 else match eV m.h i with
         | .error e=> .error e
         | .ok (h,k)=> .ok ⟨m.t,h,[],⟨0,k,0,0,0,[],[]⟩⟩:=rfl
 rw[hP]at hD
 have err:∀(e:Int) (V2:View) (V02:View),Mv (fun i=>i=q) V0 V V02 V2→gV V02 V2 q m s hs bs B→bH m c= .error e→Nc V0 V V2 q (.agg ⟨[.int .i64 e,.int .i64 0,.int .i64 0,.int .i64 0,.int .i64 0,.slice none 0 0,.slice none 0 0]⟩) (doP m c) (aK m c).a∧cv m c=false:=by
  intro e V2 V02 hS hR hd
  obtain⟨d1,d2,d3⟩:=pQ hd
  rw[d1,d2,d3]
  exact⟨⟨V02,hS,⟨hS.sub,hS.apart _ hn (by rw[h.box];simp),s,hs,bs,B,hR⟩,yR e⟩,rfl⟩
 have same:∀(a:Ans),bH m c= .ok ⟨m.t,m.h,[],a⟩→doP m c=m∧cv m c=false∧(aK m c).a=a:=by
  intro a hd
  have hp:=cA hd
  obtain⟨d1,d2⟩:=gM hp rfl
  exact⟨d1,by rw[d2];simp,by rw[hp]⟩
 cases hf:b8 m.t c.path with
 | error e=>
   rw[hf]at hD
   exact⟨_,_,rfl,aa (fun _=>err e V1 V01 hS1 h1 hD) (fun h=>absurd (of_decide_eq_true (aD h)) (rj hf))⟩
 | ok i=>
   rw[hf]at hD
   dsimp only at hD
   have hi:=uS hf
   have h12:=(bP hM).len
   have hsn:=h1.tre.n
   obtain⟨ad,sq,en,ha,hcc,hN⟩:=(h1.tre.mono hS1.sub).bO (i:=i) (by omega)
   refine⟨_,_,rfl,aa (fun h=>absurd h (by decide)) (fun _=>⟨_,rfl,s,by rw[Addr.add_add];exact bx h1.box 1 rfl,by omega,by omega,ad,ha,_,_,_,sq,en,hcc,fun _=> ?_⟩)⟩
   refine aa (fun hk=> ?_) (fun hk=>aa (fun hk2=> ?_) (fun hk2=>aa (fun hk3=> ?_) (fun hk3=>aa (fun hk4=> ?_) (fun hk4=> ?_))))
   ·rw[if_pos (of_decide_eq_true hk)]at hD
    obtain⟨d1,d2,d3⟩:=same _ hD
    rw[d1,d2,d3]
    exact⟨⟨V01,hS1,⟨hS1.sub,hn1,s,hs,bs,B,h1⟩,⟨none,0,0⟩,⟨none,0,0⟩,rfl,SlR.nil _ _ _,SlR.nil _ _ _⟩,rfl⟩
   ·have hk2:c.kind=8∧(m.t.getD i default).kind≠2:=by
     by_cases h8:c.kind=8
     ·rw[decide_eq_true h8]at hk2;exact⟨h8,of_decide_eq_false (aM hk2)⟩
     ·rw[decide_eq_false h8]at hk2;cases hk2
    rw[if_neg (of_decide_eq_false hk),if_pos hk2]at hD
    exact err 11 V1 V01 hS1 h1 hD
   ·have hk2:¬(c.kind=8∧(m.t.getD i default).kind≠2):=by
     rintro⟨h8,h9⟩
     rw[decide_eq_true h8,decide_eq_false h9]at hk2;cases hk2
    rw[if_neg (of_decide_eq_false hk),if_neg hk2,if_pos (of_decide_eq_true hk3)]at hD
    have hml:(m.t.getD i default).az.length≤1000:=(jP ((bP hM).at hi)).2
    have hen:=hN.az.n
    refine di (k:= .sl) (l:= .int .i64) (fun(x:Sl) (jj:Int) V2=>∃(j:Nat) (cs:List Value),jj=j∧j≤(m.t.getD i default).az.length∧Buf V2 x 9 (Rep.sz ByteArray) cs∧aR V01 cs (((m.t.getD i default).az.take j).map Ent.name)∧V1.Le (V2.minus x)) (fun _ (jj:Int) _=>(m.t.getD i default).az.length-jj.toNat) ⟨0,[],rfl,by omega,Buf.nil _ _ _,rfl,View.Le.refl _⟩ ?_
    rintro(x:Sl) (jj:Int) V2 ⟨j,cs,rfl,hj,hB,hR,hle2⟩
    refine aa (fun hlt=> ?_) (fun hge=> ?_)
    ·have hlt:j<(m.t.getD i default).az.length:=by have:=of_decide_eq_true hlt;omega
     obtain⟨ad2,ha2,hc2,hz,_⟩:=(hN.az.mono (hle2.trans (View.aj _ _))).lZ hlt
     have hxn:=hB.n_eq (α:=ByteArray) hR
     rw[List.length_map,List.length_take]at hxn
     refine⟨by omega,by omega,ad2,ha2,_,_,hc2,fun _ r hr=> ?_⟩
     refine pn (α:=ByteArray) (d:=((m.t.getD i default).az.getD j default).name) rfl hB (rH hR) ⟨rfl,hz⟩ hle2 hr rfl (by show(x.n+1)*16≤_;omega) (by show x.n+1≤_;omega) fun z V3 cs2 g1 g2 g3=> ?_
     exact⟨au (by omega) (by omega),⟨j+1,cs2,by omega,by omega,g1,by rw[eI hlt,List.map_append];exact rH g2,g3⟩,by omega⟩
    ·have hge:j=(m.t.getD i default).az.length:=by have:=of_decide_eq_false hge;omega
     subst hge
     rw[List.take_length]at hR
     obtain⟨d1,d2,d3⟩:=same _ hD
     rw[d1,d2,d3]
     have hV12:V1.Le V2:=hle2.trans (View.aj _ _)
     have hS2:Mv (fun i=>i=q) V01 V1 V01 V2:=Mv.grow hS1.sub hV12
     obtain⟨V02,hS3,hle3,hx3,_⟩:=hB.share (α:=ByteArray) hS2 hR (fun i hi=>by
      cases hs:V1.see i with
      | none=>exact absurd hs hi
      | some o=>rw[hle2.see _ _ hs];simp) (hS1.sub.trans hle2)
     have h3:=h1.grow hS3.base hV12
     exact⟨⟨V02,hS1.trans hS3,⟨hS3.sub,hS3.apart _ hn1 (by rw[h1.box];simp),s,hs,bs,B,h3⟩,⟨none,0,0⟩,x,rfl,SlR.nil _ _ _,hx3⟩,rfl⟩
   ·have hk3:=of_decide_eq_false hk3
    rw[if_neg (of_decide_eq_false hk),if_neg (fun h=>hk3 h.1),if_neg hk3,if_pos (of_decide_eq_true hk4)]at hD
    exact err 10 V1 V01 hS1 h1 hD
   ·have hk3:=of_decide_eq_false hk3
    rw[if_neg (of_decide_eq_false hk),if_neg (fun h=>hk3 h.1),if_neg hk3,if_neg (of_decide_eq_false hk4)]at hD
    refine⟨_,rfl,hs,bx h1.box 2 rfl, ?_⟩
    refine(af.stp (B:=fun i=>i=q) (K:=fun r V' =>∃W,wH W V' r (eV m.h i)) hS1.sub ((yw h1.bW).mono fun r V' h=>⟨⟨_,h⟩, ?_⟩)).mono ?_
    ·cases ho:eV m.h i with
     | error e=>rw[ho]at h;rw[h.2];exact View.Le.refl _
     | ok o=>rw[ho]at h;obtain⟨x,_,_,h3⟩:=h;exact h3
    rintro r V2 ⟨V02,⟨W,hx⟩,hS2,hV2⟩
    have h2:=h1.grow hS2.base hV2
    have hn2:V02.see q=none:=hS2.apart _ hn1 (by rw[h1.box];simp)
    cases ho:eV m.h i with
    | error e=>
      rw[ho]at hx hD
      obtain⟨rfl,_⟩:=hx
      exact⟨⟨none,0,0⟩,_,_,rfl,aa (fun _=>err e V2 V02 (hS1.trans hS2) h2 hD) (fun h=>absurd (of_decide_eq_true (aD h)) (wO ho))⟩
    | ok o=>
      obtain⟨h',k⟩:=o
      rw[ho]at hx hD
      obtain⟨x,rfl,hx,_⟩:=hx
      dsimp only at hD
      have hp:=cA hD
      obtain⟨d1,d2⟩:=gM hp rfl
      rw[d1,d2,hp]
      obtain⟨c1,c2,c3⟩:=h2.rI hS2.sub hn2 hx
      refine⟨x,_,_,rfl,aa (fun h=>absurd h (by decide)) (fun _=>⟨_,rfl,c1,⟨V02,(hS1.trans hS2).trans c3,⟨c3.sub,hn2,s,x,bs,B,c2⟩,⟨none,0,0⟩,⟨none,0,0⟩,rfl,SlR.nil _ _ _,SlR.nil _ _ _⟩,by simp⟩)⟩
theorem tI:∀ {P:Int→Option (List UInt8)} {q k:Int} {l:List Tod},k≤q→cM P q l k=P k
 | P,q,k,[],_=>rfl
 | P,q,k,x::l,h=>by
   rw[cM,tI (by omega),if_neg (by omega)]
theorem F6 {P:Int→Option (List UInt8)} {q k:Int} {l:List Tod} (h:k≤q):pgP (cM P q l) k=pgP P k:=by
 unfold pgP;rw[tI h]
end
def j0 (P:Int→Option (List UInt8)) (l:List Tod):List (List UInt8):=l.map fun x=>dj (pgP P x.old) x
def Lo (B:List (List UInt8)) (u:Tre) (P:Int→Option (List UInt8)):Prop:=∀i p,i<12→p<5→(u.getD i default).an.getD p 0≠0→B.getD (i*5+p) []=pgP P ((u.getD i default).an.getD p 0)
theorem oC {B:List (List UInt8)} {k j:Nat} {b:List UInt8} (hk:k<B.length):(B.set k b).getD j []=if j=k then b else B.getD j []:=by
 by_cases e:j=k
 ·subst e;rw[if_pos rfl,List.getD_eq_getElem?_getD,List.getElem?_set_self hk];rfl
 ·rw[if_neg e,List.getD_eq_getElem?_getD,List.getElem?_set_ne (fun h=>e h.symm), ←List.getD_eq_getElem?_getD]
theorem AI {B:List (List UInt8)} {u:Tre} {P:Int→Option (List UInt8)} {q:Int} {l:List Tod} {x:Tod} {k:Nat} (hB:B.length=60) (hu:u.length=12) (hk:k<12) (h5:(u.getD k default).an.length=5) (h:Lo B u (cM P q l)) (hp0:0≤x.aS) (hp5:x.aS<5) (ho:x.old≤q) (hq:0≤q) (ht:rY u (q+l.length)):
  Lo (B.set (k*5+x.aS.toNat) (dj (pgP P x.old) x)) (gT u k x.aS.toNat (q+l.length+1)) (cM P q (l++ [x])):=by
 intro i p hi hp hne
 have hkey:∀s:Int,pgP (cM P q (l++ [x])) s=if s=0 then fO else if s=q+l.length+1 then dj (pgP P x.old) x else pgP (cM P q l) s:=by
  intro s
  unfold pgP
  by_cases h0:s=0
  ·rw[if_pos h0,if_pos h0]
  ·rw[if_neg h0,if_neg h0,if_neg h0,mE]
   by_cases h1:s=q+l.length+1
   ·simp only [if_pos h1]
    rw[F6 ho];rfl
   ·simp only [if_neg h1]
 by_cases e:i=k
 ·subst e
  rw[uK (by omega)]at hne ⊢
  dsimp only at hne ⊢
  rw[tr (by omega)]at hne ⊢
  by_cases e2:p=x.aS.toNat
  ·rw[if_pos e2,oC (by omega),if_pos (by omega),hkey,if_neg (by omega),if_pos rfl]
  ·rw[if_neg e2]at hne ⊢
   rw[oC (by omega),if_neg (by omega),hkey,if_neg hne,if_neg,h i p hi hp hne]
   intro e3
   have:=ht _ (eK (t:=u) (k:=i) (by rw[bY (by omega)];exact List.getElem_mem _):(u.getD i default).an.getD p 0∈bC u)
   omega
 ·have hat:(gT u k x.aS.toNat (q+l.length+1)).getD i default=u.getD i default:=by
   unfold gT;rw[fC,if_neg (fun h=>e h.1)]
  rw[hat]at hne ⊢
  rw[oC (by omega),if_neg (by omega),hkey,if_neg hne,if_neg,h i p hi hp hne]
  intro e3
  have hpl:p<(u.getD i default).an.length:=by
   apply Classical.byContradiction
   intro h0
   rw[List.getD_eq_getElem?_getD,List.getElem?_eq_none (by omega)]at hne
   exact hne rfl
  have:=ht _ (eK (t:=u) (k:=i) (by rw[bY hpl];exact List.getElem_mem _):(u.getD i default).an.getD p 0∈bC u)
  omega
section
variable {V0 V:View} {q:Nat} {m:bQ} {y x0:Sl} {s hs:Sl} {bs:List Value} {B:List (List UInt8)} {u:Tre} {l:List Tod}
theorem yS (h:gV V0 V q m s hs bs B) (hle:V0.Le V) (hn:V0.see q=none) (hO:OkH m) (hsq:m.seq+80≤1099511627776) (hT:fh m.t u l) (hpos:∀i p,(u.getD i default).an.getD p 0=0∨(u.getD i default).an.getD p 0=(m.t.getD i default).an.getD p 0)
  (hpre:jX u l (upS m.seq l.length) (cN l)) (hx0:SlR V0 x0 u) (hy:SlR V0 y l):
  af Tryz.prog 91 ⟨[.pointer (some ⟨q,0,none⟩),aZ x0,.slice y.a y.n y.c]⟩ V fun r V' =>r= .tuple ⟨[]⟩∧∃V0',Mv (fun i=>i=q) V0 V V0' V' ∧pE V0' V' q ⟨m.data,ck (cN l) u l (upS m.seq l.length),m.h,cM m.P m.seq l,m.seq+l.length⟩:=by
 refine MR ?_
 unfold HE
 have hlen:=hT.len
 have hyn:=hy.n
 have hs0:=hO.s0
 have hbl:=h.bsl
 have htop:=hT.sub.top hO.top hO.s0
 have h12:=(bP hT.may).len
 have hmt12:=(bP hO.may).len
 refine fun _=> ?_
 refine sJ (k:= .sl) (l:= .sl) (n:= .int .i64) (fun(x w:Sl) (jj:Int) V3=>∃(j:Nat) (V03:View) (cs ds:List Value),jj=j∧j≤l.length∧Buf V3 w 23 1 cs∧Buf (V3.minus w) x 3 1 ds∧aR V03 cs (j0 m.P (l.take j))∧v7 ds (upS m.seq j)∧
   Mv (fun i=>i=q) V0 V V03 ((V3.minus w).minus x)∧gV V03 ((V3.minus w).minus x) q { m with seq:=m.seq+j } s hs bs B) (fun _ _ (jj:Int) _=>l.length-jj.toNat)
  ⟨0,V0,[],[],rfl,by omega,Buf.nil _ _ _,Buf.nil _ _ _,rfl,(show aR V [] ([]:List Int)from rfl).int,Mv.refl hle,by
    have:({ m with seq:=m.seq+((0:Nat):Int) } :bQ)=m:=by
     show(⟨m.data,m.t,m.h,m.P,m.seq+0⟩:bQ)=m
     rw[Int.add_zero]
    rw[this];exact h⟩ ?_
 rintro(x w:Sl) (jj:Int) V3 ⟨j,V03,cs,ds,rfl,hj,hBw,hBx,hRw,hRx,hS3,hR3⟩
 have hw1:=hBw.n_eq (α:=List UInt8) hRw
 have hx1:=hBx.n_eq (α:=Int) (hRx.rep (W:=V))
 rw[jW]at hx1
 unfold j0 at hw1
 rw[List.length_map,List.length_take]at hw1
 have hn3:V03.see q=none:=hS3.apart _ hn (by rw[h.box];simp)
 refine aa (fun hlt=> ?_) (fun hge=> ?_)
 ·have hlt:j<l.length:=by have:=of_decide_eq_true hlt;omega
  have hxm:l.getD j default∈l:=by rw[aB hlt];exact List.getElem_mem _
  obtain⟨t1,t2,t3,t4,t5,t6,t7,t8⟩:=hT.todo _ hxm
  have hk12:=hT.k12
  have hWle:((V3.minus w).minus x).Le V3:=(View.aj _ _).trans (View.aj _ _)
  obtain⟨ad,yd,ha,hcc,hTd⟩:=hy.vR hlt
  have hV03:V0.Le ((V3.minus w).minus x):=hS3.base.trans hS3.sub
  have hpk:ak m.t (l.getD j default).node.toNat=1:=by rw[t1];exact t8
  have hold:(l.getD j default).old=(m.t.getD (l.getD j default).node.toNat default).an.getD (l.getD j default).aS.toNat 0:=by rw[t7,t1];rfl
  refine⟨by omega,by omega,ad,ha,_,_,_,_,_,yd,aV (hV03.trans hWle) hcc,fun _=>⟨trivial,_,hWle, ?_⟩⟩
  refine(af.nw (K:=fun r U' =>∃z:Sl,r= .slice z.a z.n z.c∧SlR U' z (pgP m.P (l.getD j default).old)∧((V3.minus w).minus x).Le U') ((mM hR3 hS3.sub hO.may hO.p16 (by omega) (by omega) t2 t3 hpk).mono fun r U' ⟨z,h1,h2,h3⟩=>⟨z,h1,by rw[hold];exact h2,h3⟩) hBw hBx).mono ?_
  rintro r V4 ⟨U4,⟨z,rfl,hz,hU34⟩,hU4,hBw4,hBx4⟩
  have h34:=hU34.trans hU4
  refine⟨z,rfl,h34.trans ((View.aj _ _).trans (View.aj _ _)), ?_⟩
  refine(af.nw (K:=fun r U' =>∃b:Nat,((V4.minus w).minus x).size≤b∧r= .slice (some ⟨b,0,none⟩) 16 16∧B8 ((V4.minus w).minus x) U' b (dj (pgP m.P (l.getD j default).old) (l.getD j default))) (xX (hz.mono hU4) (uw.mono (hV03.trans h34) hTd) (by omega)) hBw4 hBx4).mono ?_
  rintro r V5 ⟨U5,⟨b,hbz,rfl,hB8⟩,hU5,hBw5,hBx5⟩
  have h45:=hB8.vle.trans hU5
  have h35:=h34.trans h45
  have hb5:=hU5.see _ _ hB8.at_
  have hb1:V.see b=none:=View.ax (Nat.le_trans hS3.size (Nat.le_trans h34.size hbz))
  have hb03:V03.see b=none:=View.ax (Nat.le_trans hS3.sub.size (Nat.le_trans h34.size hbz))
  have hS5:=(hS3.trans (Mv.grow hS3.sub h35)).share hb1 hb5 hb03
  have hp03:=View.bB (o:= .cells ⟨u8s (dj (pgP m.P (l.getD j default).old) (l.getD j default))⟩ 5 (0,0)) hb03
  have hz5:SlR (V03.put b (.cells ⟨u8s (dj (pgP m.P (l.getD j default).old) (l.getD j default))⟩ 5 (0,0))) ⟨some ⟨b,0,none⟩,16,16⟩ (dj (pgP m.P (l.getD j default).old) (l.getD j default)):=by
   have:=bK (te:=5) (W:=V03) (l:=dj (pgP m.P (l.getD j default).old) (l.getD j default)) (View.ah V03 b _) (cV _) hp03 (by rw[jv];omega)
   rw[jv]at this
   exact this
  refine⟨⟨some ⟨b,0,none⟩,16,16⟩,rfl,fun r hr=> ?_⟩
  have hfr:=View.ax hr
  refine oP (α:=List UInt8) (V0:=(V5.minus w).minus x) (x:=w) (y:=x) rfl (hBw5.put hfr) (hBx5.mono (bz hfr)) (hRw.mono (hp03.trans hS5.sub)) (d:=dj (pgP m.P (l.getD j default).old) (l.getD j default)) (vs:= [.slice (some ⟨b,0,none⟩) 16 16]) ⟨_,rfl,hz5.mono hS5.sub⟩ (aN (bz hfr) x) (dx (View.ah _ _ _) rfl) (by unfold j0;rw[List.length_map,List.length_take];omega) (by unfold j0;rw[List.length_map,List.length_take];omega) ?_
  intro w' V6 g1 g2 g3 g4
  have hbox6:((V6.minus w').minus x).see q=some (.cells ⟨[.int .i64 m.data,.slice s.a s.n s.c,.slice hs.a hs.n hs.c,.int .i64 (m.seq+j)]++bs⟩ 56 (0,0)):=g4.see _ _ (h35.see _ _ hR3.box)
  have hbox6w:=(View.aj _ _).see _ _ hbox6
  have hbox6v:=(View.aj _ _).see _ _ hbox6w
  have e6:V6.sets ((⟨q,0,none⟩:Addr).add 3) [.int .i64 (m.seq+j+1)]=V6.put q (.cells ⟨[.int .i64 m.data,.slice s.a s.n s.c,.slice hs.a hs.n hs.c,.int .i64 (m.seq+j+1)]++bs⟩ 56 (0,0)):=bxe hbox6v 3 _
  refine⟨_,rfl,_,bx hbox6v 3 rfl,au (by omega) (by omega),_,rfl,bxc hbox6v 3 1 (by simp), ?_⟩
  rw[e6]
  have hb7w:=g1.ox (o' := .cells ⟨[.int .i64 m.data,.slice s.a s.n s.c,.slice hs.a hs.n hs.c,.int .i64 (m.seq+j+1)]++bs⟩ 56 (0,0)) hbox6w
  have e7:=dP (o' := .cells ⟨[.int .i64 m.data,.slice s.a s.n s.c,.slice hs.a hs.n hs.c,.int .i64 (m.seq+j+1)]++bs⟩ 56 (0,0)) hbox6w
  have hb7x:=g2.ox (o' := .cells ⟨[.int .i64 m.data,.slice s.a s.n s.c,.slice hs.a hs.n hs.c,.int .i64 (m.seq+j+1)]++bs⟩ 56 (0,0)) hbox6
  have e8:=dP (o' := .cells ⟨[.int .i64 m.data,.slice s.a s.n s.c,.slice hs.a hs.n hs.c,.int .i64 (m.seq+j+1)]++bs⟩ 56 (0,0)) hbox6
  rw[←e7]at hb7x e8
  have hn5:(V03.put b (.cells ⟨u8s (dj (pgP m.P (l.getD j default).old) (l.getD j default))⟩ 5 (0,0))).see q=none:=hS5.apart _ hn (by rw[h.box];simp)
  have hS6:=hS5.trans (Mv.grow (B:=fun i=>i=q) hS5.sub g4)
  have hS7:=hS6.trans (Mv.put (B:=fun i=>i=q) (.cells ⟨[.int .i64 m.data,.slice s.a s.n s.c,.slice hs.a hs.n hs.c,.int .i64 (m.seq+j+1)]++bs⟩ 56 (0,0)) hS6.sub hn5 (.inl rfl))
  rw[←e8]at hS7
  have hbox7:(((V6.put q (.cells ⟨[.int .i64 m.data,.slice s.a s.n s.c,.slice hs.a hs.n hs.c,.int .i64 (m.seq+j+1)]++bs⟩ 56 (0,0))).minus w').minus x).see q=some (.cells ⟨[.int .i64 m.data,.slice s.a s.n s.c,.slice hs.a hs.n hs.c,.int .i64 (m.seq+j+1)]++bs⟩ 56 (0,0)):=by rw[e8];exact View.ah _ _ _
  generalize V6.put q (.cells ⟨[.int .i64 m.data,.slice s.a s.n s.c,.slice hs.a hs.n hs.c,.int .i64 (m.seq+j+1)]++bs⟩ 56 (0,0))=V7 at hb7w hb7x hS7 hbox7
  have hbox7v:=(View.aj _ _).see _ _ ((View.aj _ _).see _ _ hbox7)
  refine⟨_,rfl,_,bx hbox7v 3 rfl,fun r2 hr2=> ?_⟩
  have hfr2:=View.ax hr2
  refine oP (α:=Int) (V0:=(V7.minus w').minus x) (x:=x) (y:=w') rfl ((hb7x.mono (View.aj _ _)).put hfr2) ((hb7x.swap hb7w).mono (bz hfr2)) (hRx.rep) (d:=m.seq+j+1) (vs:= [.int .i64 (m.seq+j+1)]) ⟨rfl,au (by omega) (by omega)⟩ ((b9 V7 w' x).trans (aN (bz hfr2) w')) (dx (View.ah _ _ _) rfl) (by rw[jW];omega) (by rw[jW];omega) ?_
  intro x' V9 k1 k2 k3 k4
  have h79:((V7.minus w').minus x).Le ((V9.minus w').minus x'):=k4.trans (b9 V9 x' w')
  refine⟨au (by omega) (by omega),⟨j+1,_,_,_,by omega,by omega,k2.mono (View.aj _ _),k2.swap k1, ?_, ?_,hS7.trans (Mv.grow hS7.sub h79), ?_,hR3.tre.mono hp03,hR3.bW.mono hp03,hR3.rows.mono hp03,hR3.len,hR3.aS⟩,by omega⟩
  ·unfold j0
   rw[eI hlt,List.map_append]
   exact(hRw.mono hp03).snoc ⟨_,rfl,hz5⟩
  ·rw[nE];exact k3.int
  ·rw[show({ m with seq:=m.seq+((j+1:Nat):Int) } :bQ).seq=m.seq+j+1 by show m.seq+((j+1:Nat):Int)=_;push_cast;omega]
   exact h79.see _ _ hbox7
 ·have hge:j=l.length:=by have:=of_decide_eq_false hge;omega
  subst hge
  rw[List.take_length]at hRw
  obtain⟨V04,hS4,hle4,hx4,_⟩:=hBx.share (α:=Int) (hS3.trans (Mv.grow (V' :=V3.minus w) hS3.sub (View.aj _ _))) (hRx.rep) (fun i hi=>hS3.keep i hi) hS3.sub
  obtain⟨V05,hS5,hle5,hw5,_⟩:=hBw.share (α:=List UInt8) (hS4.trans (Mv.grow (V' :=V3) hS4.sub (View.aj _ _))) (hRw.mono hle4) (fun i hi=>hS4.keep i hi) hS4.sub
  have hle35:V03.Le V05:=hle4.trans hle5
  have hV33:((V3.minus w).minus x).Le V3:=(View.aj _ _).trans (View.aj _ _)
  have hR5:=hR3.grow hle35 hV33
  have hV05:V0.Le V05:=hS5.base
  have hn5:V05.see q=none:=hS5.apart _ hn (by rw[h.box];simp)
  refine(af.stp (B:=fun i=>i=q) (K:=fun r V' =>∃x:Sl,r= .tuple ⟨[aZ x,.int .i64 0]⟩∧SlR V' x (ck (cN l) u l (upS m.seq l.length))) hS5.sub ((yt (hx0.mono hV05) (hy.mono hV05) (hx4.mono hle5) hpre).mono fun r V' ⟨x,h1,h2,h3⟩=>⟨⟨x,h1,h2⟩,h3⟩)).mono ?_
  rintro r V6 ⟨V06,⟨x',rfl,hx'⟩,hS6,hV36⟩
  have hR6:=hR5.grow hS6.base hV36
  have hn6:V06.see q=none:=hS6.apart _ hn5 (by rw[hR5.box];simp)
  have hbox6:V6.see q=some (.cells ⟨[.int .i64 m.data,.slice s.a s.n s.c,.slice hs.a hs.n hs.c,.int .i64 (m.seq+l.length)]++bs⟩ 56 (0,0)):=hR6.box
  have e6:V6.sets ((⟨q,0,none⟩:Addr).add 1) [.slice x'.a x'.n x'.c]=V6.put q (.cells ⟨[.int .i64 m.data,.slice x'.a x'.n x'.c,.slice hs.a hs.n hs.c,.int .i64 (m.seq+l.length)]++bs⟩ 56 (0,0)):=bxe hbox6 1 _
  refine⟨x',_,rfl,_,rfl,bxc hbox6 1 1 (by simp), ?_⟩
  rw[e6]
  have hS7:Mv (fun i=>i=q) V06 V6 V06 (V6.put q (.cells ⟨[.int .i64 m.data,.slice x'.a x'.n x'.c,.slice hs.a hs.n hs.c,.int .i64 (m.seq+l.length)]++bs⟩ 56 (0,0))):=Mv.put _ hS6.sub hn6 (.inl rfl)
  refine bh (k:= .int .i64) (fun(jj:Int) V7=>∃(j:Nat) (bs:List Value) (B:List (List UInt8)),jj=j∧j≤l.length∧Mv (fun i=>i=q) V06 V6 V06 V7∧V7.see q=some (.cells ⟨[.int .i64 m.data,.slice x'.a x'.n x'.c,.slice hs.a hs.n hs.c,.int .i64 (m.seq+l.length)]++bs⟩ 56 (0,0))∧aR V06 bs B∧B.length=60∧
    Lo B (ck (cN l) u (l.take j) (upS m.seq j)) (cM m.P m.seq (l.take j))) (fun(jj:Int) _=>l.length-jj.toNat)
   ⟨0,bs,B,rfl,by omega,hS7,View.ah _ _ _,hR6.rows,hR6.len, ?_⟩ ?_
  ·intro i p hi hp hne
   have hne:(u.getD i default).an.getD p 0≠0:=hne
   rcases hpos i p with e | e
   ·exact absurd e hne
   ·show B.getD _ []=pgP m.P ((u.getD i default).an.getD p 0)
    rw[e]
    exact h.aS i p hi hp (by rw[←e];exact hne)
  rintro(jj:Int) V7 ⟨j,bs,B,rfl,hj,hS7,hbox7,hrow7,hB60,hrel⟩
  have hn7:V06.see q=none:=hn6
  have hwn5:=hw5.n
  have hpl:(j0 m.P l).length=l.length:=by unfold j0;rw[List.length_map]
  have hbs7:bs.length=60:=by
   have:=hrow7.len
   rw[hB60]at this;exact this
  refine aa (fun hlt=> ?_) (fun hge=> ?_)
  ·have hlt:j<l.length:=by have:=of_decide_eq_true hlt;omega
   have hxm:l.getD j default∈l:=by rw[aB hlt];exact List.getElem_mem _
   obtain⟨t1,t2,t3,t4,t5,t6,t7,t8⟩:=hT.todo _ hxm
   have hk12:=hT.k12
   obtain⟨ad,yd,ha,hcc,hTd⟩:=hy.vR hlt
   have hV7:V0.Le V7:=(hV05.trans hS6.base).trans hS7.sub
   obtain⟨ad2,vs2,ha2,hc2,z2,rfl,hz2⟩:=(hw5.mono hS6.base).get j (by omega)
   have epg:(j0 m.P l)[j]'(by omega)=dj (pgP m.P (l.getD j default).old) (l.getD j default):=by
    unfold j0;rw[List.getElem_map,aB hlt]
   rw[epg]at hz2
   have hidx:(cN l)*5+(l.getD j default).aS.toNat<60:=by omega
   have e7:V7.sets ((⟨q,0,none⟩:Addr).add (4+((l.getD j default).node.toNat*5+(l.getD j default).aS.toNat*1))) [.slice z2.a z2.n z2.c]=V7.put q (.cells ⟨[.int .i64 m.data,.slice x'.a x'.n x'.c,.slice hs.a hs.n hs.c,.int .i64 (m.seq+l.length)]++bD bs ((cN l*5+(l.getD j default).aS.toNat)*1) [.slice z2.a z2.n z2.c]⟩ 56 (0,0)):=by
    rw[bxe hbox7]
    congr 3
    show([Value.int .i64 m.data,.slice x'.a x'.n x'.c,.slice hs.a hs.n hs.c,.int .i64 (m.seq+l.length)]++bs).set (4+((l.getD j default).node.toNat*5+(l.getD j default).aS.toNat*1)) (.slice z2.a z2.n z2.c)= [Value.int .i64 m.data,.slice x'.a x'.n x'.c,.slice hs.a hs.n hs.c,.int .i64 (m.seq+l.length)]++bs.set ((cN l*5+(l.getD j default).aS.toNat)*1) (.slice z2.a z2.n z2.c)
    rw[List.set_append_right _ _ (by simp only [List.length_cons,List.length_nil];omega)]
    congr 2
    simp only [List.length_cons,List.length_nil]
    omega
   refine⟨by omega,by omega,ad,ha,_,_,_,_,_,yd,aV hV7 hcc,fun _=>⟨trivial,V06,hS7.sub,by omega,by omega,ad2,ha2,z2,bT.1 hc2,_,rfl,by omega,by omega,t2,t3, ?_⟩⟩
   rw[Addr.add_add,Addr.add_add,e7]
   have hrep2:Rep.rep V06 [Value.slice z2.a z2.n z2.c] (dj (pgP m.P (l.getD j default).old) (l.getD j default)):=⟨z2,rfl,hz2⟩
   have hu12:(ck (cN l) u (l.take j) (upS m.seq j)).length=12:=by rw[dU];exact h12
   obtain⟨sq,sq1,sq2⟩:=nD (cN l) u (l.take j) (upS m.seq j) (by omega)
   have hu5:=(bN ((bP hT.may).at hk12) t5).2.2.2.2.1
   have htk:(l.take j).length=j:=by rw[List.length_take];omega
   obtain⟨_,dm⟩:=qV (cN l) u (l.take j) m.seq hT.may hk12 t5 htop hs0 (by omega) (fun x hx=>by
    obtain⟨_,a1,a2,a3,_⟩:=hT.todo x (List.mem_of_mem_take hx)
    exact⟨a1,a2,a3⟩)
   rw[htk]at dm
   have holdle:(l.getD j default).old≤m.seq:=by
    rw[t7]
    by_cases h0:(l.getD j default).aS.toNat<(m.t.getD (cN l) default).an.length
    ·exact hO.top _ (eK (k:=cN l) (by rw[bY h0];exact List.getElem_mem _))
    ·rw[List.getD_eq_getElem?_getD,List.getElem?_eq_none (by omega)]
     exact hs0
   have hst:=AI (x:=l.getD j default) hB60 hu12 hk12 (by rw[sq2];show sq.length=5;rw[sq1];exact hu5) hrel t2 t3 holdle hs0 (by rw[htk];exact dm)
   rw[htk]at hst
   have hpt:ck (cN l) u (l.take (j+1)) (upS m.seq (j+1))=gT (ck (cN l) u (l.take j) (upS m.seq j)) (cN l) (l.getD j default).aS.toNat (m.seq+j+1):=by
    rw[eI hlt,nE,mC _ _ _ _ _ _ (by rw[htk,jW])]
   refine⟨bxc hbox7 _ 1 (by simp only [List.length_append,List.length_cons,List.length_nil];omega),au (by omega) (by omega),⟨j+1,_,_,by omega,by omega,hS7.trans (Mv.put _ hS7.sub hn7 (.inl rfl)),View.ah _ _ _,aR.set (α:=List UInt8) hrep2 hrow7 (i:=cN l*5+(l.getD j default).aS.toNat) (by omega),by rw[List.length_set];exact hB60, ?_⟩,by omega⟩
   rw[hpt,eI hlt]
   exact hst
  ·have hge:j=l.length:=by have:=of_decide_eq_false hge;omega
   subst hge
   rw[List.take_length]at hrel
   exact⟨rfl,V06,(hS5.trans hS6).trans hS7,hS7.sub,hn6,x',hs,bs,B,hbox7,hx',hR6.bW,hrow7,hB60,hrel⟩
end
theorem uZ {t:Tre} {k:Nat} {n:Nod} (h:∀p,n.an.getD p 0=0∨n.an.getD p 0=(t.getD k default).an.getD p 0) (i p:Nat):((t.set k n).getD i default).an.getD p 0=0∨((t.set k n).getD i default).an.getD p 0=(t.getD i default).an.getD p 0:=by
 rw[fC]
 split
 ·rename_i e;rw[e.1];exact h p
 ·exact .inr rfl
theorem AJ {t u:Tre} {d i a:Int} {b:List UInt8} {l:List Tod} (h:cE t d i a b= .ok (u,l)) (j p:Nat):(u.getD j default).an.getD p 0=0∨(u.getD j default).an.getD p 0=(t.getD j default).an.getD p 0:=by
 unfold cE at h
 split at h
 ·cases h
 split at h
 ·cases h;exact .inr rfl
 split at h
 ·cases h
 split at h
 ·cases h
 ·cases h;exact uZ (by intro p;right;rfl) j p
theorem F7 (l:List Int) (z:Int) (p:Nat):(gI l z 5).getD p 0=0∨(gI l z 5).getD p 0=l.getD p 0:=by
 by_cases h:p<5
 ·rw[nF h]
  split
  ·exact .inl rfl
  ·exact .inr rfl
 ·left
  rw[List.getD_eq_getElem?_getD,List.getElem?_eq_none (by rw[eU];omega)];rfl
theorem AK {t u:Tre} {i z:Int} {l:List Tod} (h:c5 t i z= .ok (u,l)) (j p:Nat):(u.getD j default).an.getD p 0=0∨(u.getD j default).an.getD p 0=(t.getD j default).an.getD p 0:=by
 unfold c5 at h
 split at h
 ·cases h
 split at h
 ·cases h
 ·cases h;exact uZ (fun p=>F7 _ _ p) j p
section
variable {V0 V:View} {q:Nat} {m:bQ} {c:Cal} {y:Sl} {s hs:Sl} {bs:List Value} {B:List (List UInt8)}
def Nq (o:Except Int (Tre×List Tod)) (n:Int) (V04:View) (e:Int) (l:Sl) (n' :Int) (x:Sl):Prop:=match o with
 | .error e' =>e=e' ∧e' ≠0
 | .ok (u,ll)=>e=0∧SlR V04 l ll∧n' =n∧SlR V04 x u
theorem rJ {V1 V01:View} (h:gV V0 V q m s hs bs B) (hn:V0.see q=none) (hS:Mv (fun i=>i=q) V0 V V01 V1) (hR:gV V01 V1 q m s hs bs B) {e:Int} (hd:bH m c= .error e):
  AH V0 V V1 q (.tuple ⟨[.agg ⟨[.int .i64 e,.int .i64 0,.int .i64 0,.int .i64 0,.int .i64 0,.slice none 0 0,.slice none 0 0]⟩,.bool false]⟩) (doP m c) (aK m c).a (cv m c):=by
 obtain⟨d1,d2,d3⟩:=pQ hd
 rw[d1,d2,d3]
 exact⟨V01,hS,⟨hS.sub,hS.apart _ hn (by rw[h.box];simp),s,hs,bs,B,hR⟩,_,yR e,rfl⟩
theorem u0 (h:gV V0 V q m s hs bs B) (hle:V0.Le V) (hn:V0.see q=none) (hO:OkH m) (hsq:m.seq+80≤1099511627776) (hc:kQ V0 y c) (hk13:11≤c.kind∧c.kind≤13):
  af Tryz.prog 54 ⟨[.pointer (some ⟨q,0,none⟩),q8 c y]⟩ V fun r V' =>AH V0 V V' q r (doP m c) (aK m c).a (cv m c):=by
 refine Mj ?_
 unfold GY
 have hM:=hO.may
 have hdat:inI .i64 m.data:=au (by have:=hO.d1;omega) (by have:=hO.d2;omega)
 have hD:bH m c=j5 m c:=by unfold bH;rw[if_neg (by omega),if_neg (by omega),if_neg (by omega),if_pos hk13]
 have hP:j5 m c=match ofH m.h c.hand with
  | .error e=> .error e
  | .ok i=>
    if c.kind=12 then match cE m.t m.data i c.at_ c.data with
     | .error e=> .error e
     | .ok (u,l)=> .ok ⟨u,m.h,l,⟨0,0,c.data.length,0,0,[],[]⟩⟩
    else if c.kind=13 then match c5 m.t i c.at_ with
     | .error e=> .error e
     | .ok (u,l)=> .ok ⟨u,m.h,l,Ans.e 0⟩
    else match dQ m.t i c.at_ c.len with
     | .error e=> .error e
     | .ok l=> .ok ⟨m.t,m.h,[],⟨0,0,(cU (fun p=>pgP m.P ((m.t.getD i.toNat default).an.getD p.toNat 0)) l).length,0,0,cU (fun p=>pgP m.P ((m.t.getD i.toNat default).an.getD p.toNat 0)) l,[]⟩⟩:=rfl
 rw[hP]at hD
 refine fun _ _=>⟨trivial,V,View.Le.refl _,_,rfl,hs,bx h.box 2 rfl,(wI (h.bW.mono hle)).mono ?_⟩
 rintro r V1 ⟨rfl,rfl⟩
 cases ho:ofH m.h c.hand with
 | error e=>
   rw[ho]at hD
   exact⟨_,_,rfl,aa (fun _=>rJ h hn (Mv.refl hle) h hD) (fun h=>absurd (of_decide_eq_true (aD h)) (yx ho))⟩
 | ok i=>
   rw[ho]at hD
   dsimp only at hD
   obtain⟨hoff,hh0,hh4,hie,hi0,hi12⟩:=qY ho
   have h12:=(bP hM).len
   have hki:ak m.t i.toNat=1:=hO.file _ (by
    unfold o4
    rw[show((i.toNat:Nat):Int)=i by omega,hie]
    exact ot (by rw[cT hoff];omega))
   refine⟨_,_,rfl,aa (fun h=>absurd h (by decide)) (fun _=>aa (fun hk=> ?_) (fun hk=> ?_))⟩
   ·have hk:=of_decide_eq_true hk
    rw[if_neg (by omega),if_neg (by omega)]at hD
    refine⟨trivial,V1,View.Le.refl _,_,rfl,s,bx1 h.box 1 rfl, ?_⟩
    refine(af.stp (B:=fun i=>i=q) (K:=fun r V' =>∃W,FJ W V' r (dQ m.t i c.at_ c.len)) hle ((xW h.tre).mono fun r V' h=>⟨⟨_,h⟩, ?_⟩)).mono ?_
    ·cases hr:dQ m.t i c.at_ c.len with
     | error e=>rw[hr]at h;exact h.2
     | ok l=>rw[hr]at h;obtain⟨x,_,_,h3⟩:=h;exact h3
    rintro r V2 ⟨V02,⟨W,hx⟩,hS2,hV2⟩
    have h2:=h.grow hS2.base hV2
    have hn2:V02.see q=none:=hS2.apart _ hn (by rw[h.box];simp)
    cases hr:dQ m.t i c.at_ c.len with
    | error e=>
      rw[hr]at hx hD
      obtain⟨rfl,_⟩:=hx
      exact⟨⟨none,0,0⟩,_,rfl,aa (fun _=>rJ h hn hS2 h2 hD) (fun h=>absurd (of_decide_eq_true (aD h)) (wQ hr))⟩
    | ok l=>
      rw[hr]at hx hD
      obtain⟨x,rfl,hx,_⟩:=hx
      dsimp only at hD
      let pg:Int→List UInt8:=fun p=>pgP m.P ((m.t.getD i.toNat default).an.getD p.toNat 0)
      have hpg:∀q,(pg q).length=16:=fun q=>nJ hO.p16 _
      have hl:l=aC c.at_ (rR (m.t.getD i.toNat default).size c.at_ c.len):=by
       unfold dQ at hr
       split at hr
       ·cases hr
       ·cases hr;rfl
      have hlq:∀p∈l,0≤p.aS∧p.aS<5∧0≤p.from_∧0<p.len∧p.from_+p.len≤16:=fun p hp=>gi (by rw[hl]at hp;exact hp)
      have hl80:l.length≤80:=by rw[hl];exact dL _ _
      have hxn:=hx.n
      refine⟨x,_,rfl,aa (fun h=>absurd h (by decide)) (fun _=> ?_)⟩
      refine di (k:= .sl) (l:= .int .i64) (fun(w:Sl) (jj:Int) V3=>∃j:Nat,jj=j∧j≤l.length∧Buf V3 w 5 1 (u8s (cU pg (l.take j)))∧V2.Le (V3.minus w)) (fun _ (jj:Int) _=>l.length-jj.toNat) ⟨0,rfl,by omega,Buf.nil _ _ _,View.Le.refl _⟩ ?_
      rintro(w:Sl) (jj:Int) V3 ⟨j,rfl,hj,hB,hV3⟩
      refine aa (fun hlt=> ?_) (fun hge=> ?_)
      ·have hlt:j<l.length:=by have:=of_decide_eq_true hlt;omega
       have hqm:l.getD j default∈l:=by rw[aB hlt];exact List.getElem_mem _
       obtain⟨q1,q2,q3,q4,q5⟩:=hlq _ hqm
       obtain⟨ad,ha,hcc⟩:=hx.xR hlt
       have hV03:V02.Le (V3.minus w):=hS2.sub.trans hV3
       have h3:=h2.grow (View.Le.refl V02) hV3
       refine⟨by omega,by omega,ad,ha,_,_,_,aV (hV03.trans (View.aj _ _)) hcc,fun _=>⟨trivial,V3.minus w,View.aj _ _,au (by omega) (by omega), ?_⟩⟩
       refine(af.iN (K:=fun r U' =>∃z:Sl,r= .slice z.a z.n z.c∧SlR U' z (pg (l.getD j default).aS)) hB ((mM h3 hV03 hM hO.p16 hi0 hi12 q1 q2 hki).mono fun r U' ⟨z,h1,h2,h3⟩=>⟨⟨z,h1,h2⟩,h3⟩)).mono ?_
       rintro r V4 ⟨U,⟨z,rfl,hz⟩,hU1,hU2,hV34⟩
       have hzn:=hz.n;have hzc:=hz.c
       have hz16:=hpg (l.getD j default).aS
       have hdl:=mI pg hpg (l.take j)
       rw[List.length_take]at hdl
       refine⟨z,rfl,(View.aj _ _).trans hV34,by omega,by omega,by omega, ?_⟩
       have hsub:=(hz.sub (i:=(l.getD j default).from_.toNat) (j:=((l.getD j default).from_+(l.getD j default).len).toNat) (by omega) (by omega)).mono hU2
       refine ew (α:=UInt8) (V0:=V4.minus w) (m:=((pg (l.getD j default).aS).take ((l.getD j default).from_+(l.getD j default).len).toNat).drop (l.getD j default).from_.toNat) rfl (hB.mono hV34) (cV _) hsub (View.Le.refl _) (by simp only [List.length_drop,List.length_take];omega) (by simp only [List.length_drop,List.length_take];omega) ?_
       intro w' V5 cs' g1 g2 g3
       have e5:=jM g2
       subst e5
       refine⟨au (by omega) (by omega),⟨j+1,by omega,by omega, ?_,hV3.trans (hU1.trans (hU2.trans g3))⟩,by omega⟩
       rw[oZ hlt];exact g1
      ·have hge:j=l.length:=by have:=of_decide_eq_false hge;omega
       subst hge
       rw[List.take_length]at hB
       have hV23:V2.Le V3:=hV3.trans (View.aj _ _)
       have hS3:Mv (fun i=>i=q) V02 V2 V02 V3:=Mv.grow hS2.sub hV23
       obtain⟨V03,hS4,hle4,hw4,_⟩:=hB.share (α:=UInt8) hS3 (cV _) (fun i hi=>by
        cases hs:V2.see i with
        | none=>exact absurd hs hi
        | some o=>rw[hV3.see _ _ hs];simp) (hS2.sub.trans hV3)
       have hwn:=hB.n_eq (α:=UInt8) (W:=V02) (cV _)
       have hp:=cA hD
       obtain⟨d1,d2⟩:=gM hp rfl
       rw[d1,d2,hp]
       refine⟨V03,hS2.trans hS4,⟨hS4.sub,hS4.apart _ hn2 (by rw[h2.box];simp),s,hs,bs,B,h2.grow hS4.base hV23⟩,_,⟨w,⟨none,0,0⟩,rfl,hw4,SlR.nil _ _ _⟩, ?_⟩
       rw[show w.n=(cU pg l).length from hwn]
       simp
       rfl
   ·have hk:=of_decide_eq_false hk
    let o:Except Int (Tre×List Tod):=if c.kind=12 then cE m.t m.data i c.at_ c.data else c5 m.t i c.at_
    let n:Int:=if c.kind=12 then(c.data.length:Int)else 0
    have hyn:=hc.data.n
    have hDo:bH m c=match o with
      | .error e=> .error e
      | .ok (u,l)=> .ok ⟨u,m.h,l,⟨0,0,n,0,0,[],[]⟩⟩:=by
     rw[hD]
     show _=(match (if c.kind=12 then cE m.t m.data i c.at_ c.data else c5 m.t i c.at_)with
      | Except.error e=>(Except.error e:Except Int Dee)
      | Except.ok (u,l)=>Except.ok ⟨u,m.h,l,⟨0,0,if c.kind=12 then(c.data.length:Int)else 0,0,0,[],[]⟩⟩)
     by_cases hk2:c.kind=12
     ·simp only [if_pos hk2]<;>rfl
     ·simp only [if_neg hk2,if_pos (show c.kind=13 by omega)]
      rfl
    refine fun _=>ai (fun z V' =>∃V04,Mv (fun i=>i=q) V0 V1 V04 V' ∧V1.Le V' ∧Nq o n V04 z.1 z.2.1 z.2.2.1 z.2.2.2.1) (aa (fun hk2=> ?_) (fun hk2=> ?_)) ?_
    ·have hk2:=of_decide_eq_true hk2
     have eo:o=cE m.t m.data i c.at_ c.data:=if_pos hk2
     have en:n=(c.data.length:Int):=if_pos hk2
     refine⟨trivial,V1,View.Le.refl _,_,rfl,s,bx1 h.box 1 rfl,_,rfl,_,bx h.box 0 rfl, ?_⟩
     refine(nK (B:=fun i=>i=q) hle (pz h.tre hc.data hdat)).mono ?_
     rintro r V3 ⟨V03,⟨W,hx⟩,hS3,hV3⟩
     cases hw:cE m.t m.data i c.at_ c.data with
     | error e=>
       rw[hw]at hx
       obtain⟨rfl,he,_⟩:=hx
       refine⟨⟨none,0,0⟩,⟨none,0,0⟩,_,rfl,V03,hS3,hV3, ?_⟩
       rw[eo,hw];exact⟨rfl,he⟩
     | ok o' =>
       obtain⟨u,l⟩:=o'
       rw[hw]at hx
       obtain⟨x,w,rfl,hx,hw',_⟩:=hx
       refine⟨x,w,_,rfl,V03,hS3,hV3, ?_⟩
       rw[eo,hw];exact⟨rfl,hw',by rw[en];show((y.n:Nat):Int)=_;omega,hx⟩
    ·have hk2:=of_decide_eq_false hk2
     have eo:o=c5 m.t i c.at_:=if_neg hk2
     have en:n=0:=if_neg hk2
     refine⟨trivial,V1,View.Le.refl _,_,rfl,s,bx1 h.box 1 rfl, ?_⟩
     refine(nK (B:=fun i=>i=q) hle (wG h.tre)).mono ?_
     rintro r V3 ⟨V03,⟨W,hx⟩,hS3,hV3⟩
     cases hw:c5 m.t i c.at_ with
     | error e=>
       rw[hw]at hx
       obtain⟨rfl,he,_⟩:=hx
       refine⟨⟨none,0,0⟩,⟨none,0,0⟩,_,rfl,V03,hS3,hV3, ?_⟩
       rw[eo,hw];exact⟨rfl,he⟩
     | ok o' =>
       obtain⟨u,l⟩:=o'
       rw[hw]at hx
       obtain⟨x,w,rfl,hx,hw',_⟩:=hx
       refine⟨x,w,_,rfl,V03,hS3,hV3, ?_⟩
       rw[eo,hw];exact⟨rfl,hw',by rw[en],hx⟩
    rintro⟨e,l,n',x,⟨⟩⟩ V3 ⟨V03,hS3,hV3,hx⟩
    dsimp only [unc]
    have h3:=h.grow hS3.base hV3
    have hn3:V03.see q=none:=hS3.apart _ hn (by rw[h.box];simp)
    have hto:∀u ll,o= .ok (u,ll)→fh m.t u ll∧∀j p,(u.getD j default).an.getD p 0=0∨(u.getD j default).an.getD p 0=(m.t.getD j default).an.getD p 0:=by
     intro u ll ho'
     by_cases hk2:c.kind=12
     ·have ho' :(if c.kind=12 then cE m.t m.data i c.at_ c.data else c5 m.t i c.at_)= .ok (u,ll):=ho'
      rw[if_pos hk2]at ho';exact⟨rq hM ho',AJ ho'⟩
     ·have ho' :(if c.kind=12 then cE m.t m.data i c.at_ c.data else c5 m.t i c.at_)= .ok (u,ll):=ho'
      rw[if_neg hk2]at ho';exact⟨rz hM ho',AK ho'⟩
    cases hoo:o with
    | error e' =>
      rw[hoo]at hx hDo
      obtain⟨he,hne⟩:=hx
      have he:e=e' :=he
      subst he
      exact aa (fun _=>rJ h hn hS3 h3 hDo) (fun h=>absurd (of_decide_eq_true (aD h)) hne)
    | ok o' =>
      obtain⟨u,ll⟩:=o'
      obtain⟨hT,hpos⟩:=hto u ll hoo
      rw[hoo]at hx hDo
      obtain⟨he,hl,hnn,hx⟩:=hx
      have he:e=0:=he
      have hl:SlR V03 l ll:=hl
      have hnn:n' =n:=hnn
      have hx:SlR V03 x u:=hx
      subst he hnn
      dsimp only at hDo
      have hp:=cA hDo
      have hln:l.n=ll.length:=hl.n
      have hpre:jX u ll (upS m.seq ll.length) (cN ll):=by
       by_cases hl0:ll= []
       ·rw[hl0]
        exact⟨hT.may,by decide,rfl,(fun x hx=>by cases hx),(fun q hq=>by cases hq),hT.may⟩
       ·have:=(yB (c:=c) hO.toOkP hsq).2.2
        rw[hp]at this
        exact this hl0
      refine aa (fun h=>absurd h (by decide)) (fun _=>ai (fun z V' =>z.1=cv m c∧V' =V3) ⟨trivial,V3,View.Le.refl _,aa (fun hb=>⟨?_,rfl⟩) (fun hb=> ?_)⟩ ?_)
      ·unfold cv
       rw[hp,decide_eq_true (show 0<ll.length by have hb:(0:Int)<((l.n:Nat):Int):=of_decide_eq_true hb;omega)];rfl
      ·refine⟨_,rfl,s,bx1 h3.box 1 rfl,(kJ (h3.tre.mono hS3.sub) (hx.mono hS3.sub)).mono ?_⟩
       rintro r V4 ⟨rfl,rfl⟩
       refine⟨_,rfl, ?_,rfl⟩
       unfold cv
       rw[hp,decide_eq_false (show ¬0<ll.length by have hb:¬(0:Int)<((l.n:Nat):Int):=of_decide_eq_false hb;omega)]
       show(!decide (m.t=u))=(false || !decide (u=m.t))
       rw[Bool.false_or,decide_eq_decide.2 (show u=m.t↔m.t=u from⟨Eq.symm,Eq.symm⟩)]
      rintro⟨w,⟨⟩⟩ V4 ⟨hw,hV⟩
      have hw:w=cv m c:=hw
      have hV:V4=V3:=hV
      subst hw hV
      dsimp only [unc]
      refine(yS h3 hS3.sub hn3 hO hsq hT hpos hpre hx hl).mono ?_
      rintro r V5 ⟨rfl,V05,hS5,hR5⟩
      refine⟨rfl,V05,hS3.trans hS5, ?_,_,⟨⟨none,0,0⟩,⟨none,0,0⟩,rfl, ?_, ?_⟩, ?_⟩
      ·unfold doP
       rw[hp]
       exact hR5
      ·rw[hp];exact SlR.nil _ _ _
      ·rw[hp];exact SlR.nil _ _ _
      ·rw[hp]
end
def fT (pg:Int→List UInt8):Nat→Nat→List UInt8
 | _,0=> []
 | j,n+1=>pg j++fT pg (j+1) n
theorem mN {pg:Int→List UInt8} (hpg:∀q,(pg q).length=16):∀(k j n f:Nat),k<n→f≤16→(fT pg j n).drop (16*k+f)=(pg ((j+k:Nat):Int)).drop f++fT pg (j+k+1) (n-k-1)
 | 0,j,n+1,f,_,hf=>by
   rw[fT,Nat.mul_zero,Nat.zero_add,List.drop_append,show f-(pg (j:Int)).length=0 by rw[hpg];omega,List.drop_zero]
   simp
 | k+1,j,n+1,f,hk,hf=>by
   rw[fT,List.drop_append,List.drop_of_length_le (by rw[hpg];omega),List.nil_append,hpg,show 16*(k+1)+f-16=16*k+f by omega,mN hpg k (j+1) n f (by omega) hf]
   rw[show j+1+k=j+(k+1) by omega,show n-k-1=n+1-(k+1)-1 by omega]
 | _,_,0,_,h,_=>by omega
theorem oD {pg:Int→List UInt8} (hpg:∀q,(pg q).length=16):∀(j n:Nat),(fT pg j n).length=16*n
 | _,0=>rfl
 | j,n+1=>by rw[fT,List.length_append,hpg,oD hpg (j+1) n];omega
theorem AL {pg:Int→List UInt8} (hpg:∀q,(pg q).length=16):∀(n a:Nat),a+n≤80→cU pg (pcs a n)=((fT pg 0 5).drop a).take n:=by
 intro n
 induction n using Nat.strongRecOn with
 | _ n ih=>
   intro a h
   by_cases h0:n=0
   ·subst h0;rw[gC];simp [cU]
   ·rw[iB (by omega)]
    have ha:a=16*(a/16)+a%16:=by omega
    have hd:=mN hpg (a/16) 0 5 (a%16) (by omega) (by omega)
    rw[←ha,Nat.zero_add]at hd
    rw[hd]
    have hl:((pg ((a/16:Nat):Int)).drop (a%16)).length=16-a%16:=by rw[List.length_drop,hpg]
    have e:cU pg (⟨(a/16:Nat),(a%16:Nat),(min n (16-a%16):Nat)⟩::pcs (a+min n (16-a%16)) (n-min n (16-a%16)))=
      ((pg ((a/16:Nat):Int)).take (((a%16:Nat):Int)+((min n (16-a%16):Nat):Int)).toNat).drop (((a%16:Nat):Int)).toNat++cU pg (pcs (a+min n (16-a%16)) (n-min n (16-a%16))):=rfl
    rw[e,show(((a%16:Nat):Int)+((min n (16-a%16):Nat):Int)).toNat=a%16+min n (16-a%16) by omega,show(((a%16:Nat):Int)).toNat=a%16 by omega]
    rw[List.drop_take,show a%16+min n (16-a%16)-a%16=min n (16-a%16) by omega]
    by_cases hm:n≤16-a%16
    ·rw[show min n (16-a%16)=n by omega,Nat.sub_self,gC]
     rw[List.take_append_of_le_length (by omega)]
     simp [cU]
    ·rw[show min n (16-a%16)=16-a%16 by omega,ih (n-(16-a%16)) (by omega) _ (by omega)]
     have e1:((pg ((a/16:Nat):Int)).drop (a%16)).take n=(pg ((a/16:Nat):Int)).drop (a%16):=List.take_of_length_le (by rw[hl];omega)
     have e2:((pg ((a/16:Nat):Int)).drop (a%16)).take (16-a%16)=(pg ((a/16:Nat):Int)).drop (a%16):=List.take_of_length_le (by rw[hl];omega)
     rw[e2,List.take_append,e1,hl]
     congr 2
     have hb:a+(16-a%16)=16*(a/16)+16:=by omega
     rw[hb,mN hpg (a/16) 0 5 16 (by omega) (by omega),Nat.zero_add,List.drop_of_length_le (by rw[hpg];omega),List.nil_append]
theorem tJ:∀(f a n:Nat),a%16=0→∀p∈jQ f a n,p.from_=0
 | 0,_,_,_,p,h=>by cases h
 | f+1,a,n,ha,p,h=>by
   unfold jQ at h
   split at h
   ·cases h
   ·rcases List.mem_cons.1 h with h | h
    ·subst h;dsimp only;omega
    ·by_cases hn:n≤16
     ·rw[show min n (16-a%16)=n by omega,Nat.sub_self]at h
      cases f with
      | zero=>cases h
      | succ f=>unfold jQ at h;rw[if_pos rfl]at h;cases h
     ·rw[show min n (16-a%16)=16 by omega]at h
      exact tJ f (a+16) _ (by omega) p h
theorem yT {pg:Int→List UInt8} (hpg:∀q,(pg q).length=16) {n:Nod} (hk:n.kind=1) (h0:0≤n.size) (h80:n.size≤80):rA pg n=(fT pg 0 5).take n.size.toNat:=by
 unfold rA
 rw[if_pos hk]
 have hf:dZ 0 n.size=true:=by unfold dZ;exact decide_eq_true ⟨by omega,by omega,by omega,by omega⟩
 obtain⟨z,hz⟩:∃z:Nat,n.size=z:=⟨n.size.toNat,by omega⟩
 rw[hz]at hf ⊢
 rw[dH hf]
 have h1:=AL hpg z 0 (by omega)
 rw[List.drop_zero]at h1
 show _=(fT pg 0 5).take z
 rw[←h1]
 unfold cU
 show(pcs 0 z).flatMap _=(pcs 0 z).flatMap _
 unfold List.flatMap
 congr 1
 apply List.map_congr_left
 intro p hp
 rw[tJ _ _ _ (by decide) p hp]
 simp
theorem o7 {t:Tre} (hM:aY t=true):∀k,k≤12→cF t k=cI (t.take k)++t.drop k
 | 0,_=>by simp [cF,cI]
 | k+1,hk=>by
   have ih:=o7 hM k (by omega)
   have hm:=(jZ hM k).1
   have h12:=(bP hM).len
   have hat:=qz t k (by omega)
   have hst:=mg t k (by omega)
   have hl:=(bN (n:=t.getD k default) ((bP hM).at (by omega)))
   unfold cF
   rw[hst]
   unfold c9
   rw[hm,if_pos rfl,ih]
   have hkk:ak (cI (t.take k)++t.drop k) ((k:Int)).toNat=(t.getD k default).kind:=by unfold ak;rw[Int.toNat_natCast,hat]
   rw[hkk,Int.toNat_natCast,hat]
   unfold kD
   by_cases hc:(t.getD k default).kind=1∧(t.getD k default).links=0
   ·rw[if_pos hc,if_pos ⟨by omega,by omega,hc.1,by omega⟩]
   ·rw[if_neg hc,if_neg]
    ·have hlen:(cI (t.take k)++t.drop k).length=12:=by rw[←ih];exact(bP hm).len
     have:(cI (t.take k)++t.drop k).set k (t.getD k default)=cI (t.take k)++t.drop k:=by
      rw[←hat,aB (by omega)]
      exact List.set_getElem_self _
     rw[this]
    ·rintro⟨_,_,h1,h2⟩
     exact hc ⟨h1,by have:=(hl h1).1;omega⟩
theorem r8 {t:Tre} (hM:aY t=true):cF t 12=me t:=by
 have h12:=(bP hM).len
 rw[o7 hM 12 (by omega),List.take_of_length_le (by omega),List.drop_of_length_le (by omega),List.append_nil]
 unfold me
 rw[if_pos hM]
theorem oE {t:Tre} :∀k i p,((cF t k).getD i default).an.getD p 0=0∨((cF t k).getD i default).an.getD p 0=(t.getD i default).an.getD p 0
 | 0,_,_=> .inr rfl
 | k+1,i,p=>by
   unfold cF
   split
   ·rename_i u hu
    have h1:=(tF (held:=fun _=>False) (fun _ h=>h.elim) hu).pos i p
    rcases h1 with h1 | h1
    ·exact .inl h1
    ·rw[h1];exact oE k i p
   ·exact oE k i p
section
variable {V0 V:View} {q:Nat} {m:bQ} {c:Cal} {y:Sl} {s hs:Sl} {bs:List Value} {B:List (List UInt8)}
theorem u5 {s:Sl} {t:Tre} {V:View} (h:SlR V s t):af Tryz.prog 48 ⟨[aZ s]⟩ V fun r V' =>∃x:Sl,r=aZ x∧SlR V' x (me t)∧V.Le V' :=by
 refine Md ?_
 unfold GR
 refine fun _ _=>(dK h).mono ?_
 rintro r V1 ⟨rfl,hV1⟩
 refine⟨_,rfl,aa (fun hb=>⟨⟨none,0,0⟩,rfl, ?_,hV1⟩) (fun hb=> ?_)⟩
 ·unfold me;rw[aM hb];exact SlR.nil _ _ _
 have hM:=aD hb
 obtain⟨h12,hall⟩:=qy hM
 refine(cL (h.mono hV1) ⟨by omega,hall⟩).mono ?_
 rintro r V2 ⟨x,rfl,hO⟩
 refine⟨x,rfl,fun _=>xQ (Q:=fun r V' =>∃x:Sl,r=aZ x∧SlR V' x (me t)∧V.Le V') hO (by omega) (fun V' hO' =>⟨x,rfl, ?_,hV1.trans hO'.le⟩) _ (fun _ _ _=>rfl)⟩
 unfold me;rw[if_pos hM];exact hO'.slR
theorem r9 (h:pE V0 V q m) (hO:OkH m):af Tryz.prog 23 ⟨[.pointer (some ⟨q,0,none⟩)]⟩ V fun r V' =>r= .tuple ⟨[]⟩∧∃V0',Mv (fun i=>i=q) V0 V V0' V' ∧pE V0' V' q (eC m):=by
 refine LR ?_
 unfold Gt
 obtain⟨s,hs,bs,B,hR⟩:=h.ex
 refine⟨_,rfl,s,bx1 hR.box 1 rfl, ?_⟩
 refine(af.stp (B:=fun i=>i=q) (K:=fun r V' =>∃x:Sl,r=aZ x∧SlR V' x (me m.t)) h.le ((u5 hR.tre).mono fun r V' ⟨x,h1,h2,h3⟩=>⟨⟨x,h1,h2⟩,h3⟩)).mono ?_
 rintro r V1 ⟨V01,⟨x,rfl,hx⟩,hS1,hV1⟩
 refine⟨x,rfl, ?_⟩
 refine(af.stp (B:=fun i=>i=q) (K:=fun r V' =>∃x:Sl,r= .slice x.a x.n x.c∧SlR V' x iY) hS1.sub (lP.mono fun r V' ⟨x,h1,h2,h3⟩=>⟨⟨x,h1,h2⟩,h3⟩)).mono ?_
 rintro r V2 ⟨V02,⟨z,rfl,hz⟩,hS2,hV2⟩
 have hR2:=hR.grow (hS1.base.trans hS2.base) (hV1.trans hV2)
 have hS12:=hS1.trans hS2
 have hn2:V02.see q=none:=hS12.apart _ h.nq (by rw[hR.box];simp)
 rw[←r8 hO.may]at hx
 obtain⟨u,hu⟩:∃u,u=cF m.t 12:=⟨_,rfl⟩
 have hpos:∀i p,(u.getD i default).an.getD p 0=0∨(u.getD i default).an.getD p 0=(m.t.getD i default).an.getD p 0:=by
  rw[hu];exact oE 12
 rw[←hu]at hx
 obtain⟨c1,c2,c3⟩:=hR2.tree hS2.sub hn2 (hx.mono hS2.base) hpos
 obtain⟨d1,d2,d3⟩:=c2.rI c3.sub hn2 hz
 refine⟨z,rfl,_,rfl,c1,_,rfl,d1,rfl,V02,(hS12.trans c3).trans d3,d3.sub,hn2, ?_⟩
 unfold eC
 rw[←hu]
 exact⟨x,z,bs,B,d2⟩
theorem u6 (h:pE V0 V q m) (hO:OkH m) (i:Int):af Tryz.prog 29 ⟨[.pointer (some ⟨q,0,none⟩),.int .i64 i]⟩ V fun r V' =>∃x:Sl,r= .slice x.a x.n x.c∧SlR V' x (oz m i)∧V.Le V' :=by
 refine LX ?_
 unfold Gz
 obtain⟨s,hs,bs,B,hR⟩:=h.ex
 have hM:=hO.may
 have h12:=(bP hM).len
 have hsn:=hR.tre.n
 refine ai (fun z V2=>z.1=decide (i<0∨(m.t.length:Int)≤i∨ak m.t i.toNat≠1)∧V2=V) (aa (fun hb=>⟨?_,rfl⟩) (fun hb=>⟨_,rfl,s,by rw[Addr.add_add];exact bx hR.box 1 rfl,aa (fun hb2=>⟨?_,rfl⟩) (fun hb2=> ?_)⟩)) ?_
 ·exact(decide_eq_true (.inl (of_decide_eq_true hb))).symm
 ·exact(decide_eq_true (.inr (.inl (by have:=of_decide_eq_true hb2;omega)))).symm
 ·have hb:=of_decide_eq_false hb
  have hb2:=of_decide_eq_false hb2
  obtain⟨ad,sq,en,ha,hcc,hN⟩:=(hR.tre.mono h.le).bO (i:=i.toNat) (by omega)
  refine⟨_,rfl,s,by rw[Addr.add_add];exact bx hR.box 1 rfl,by omega,by omega,ad,ha,_,av hcc 0 rfl, ?_,rfl⟩
  show(!decide ((m.t.getD i.toNat default).kind=1))=_
  rw[←decide_not]
  exact decide_eq_decide.2 ⟨fun h=> .inr (.inr h),fun h=>by
   rcases h with h | h | h
   ·omega
   ·omega
   ·exact h⟩
 rintro⟨z,⟨⟩⟩ V2 ⟨h1,hV⟩
 have h1:z=decide (i<0∨(m.t.length:Int)≤i∨ak m.t i.toNat≠1):=h1
 have hV:V2=V:=hV
 subst h1 hV
 dsimp only [unc]
 unfold oz
 refine aa (fun hb=> ?_) (fun hb=> ?_)
 ·refine⟨⟨none,0,0⟩,rfl, ?_,View.Le.refl _⟩
  split
  ·exact SlR.nil _ _ _
  ·rename_i hc
   unfold rA
   rw[if_neg]
   ·exact SlR.nil _ _ _
   ·rcases of_decide_eq_true hb with h | h | h
    ·exact absurd (.inl h) hc
    ·exact absurd (.inr h) hc
    ·exact h
 have hb:=of_decide_eq_false hb
 rw[if_neg (fun h=>hb (h.elim .inl (fun h=> .inr (.inl h))))]
 have hi0:0≤i:=by
  apply Classical.byContradiction
  intro h;exact hb (.inl (by omega))
 have hi1:i<12:=by
  apply Classical.byContradiction
  intro h;exact hb (.inr (.inl (by omega)))
 have hk:ak m.t i.toNat=1:=by
  apply Classical.byContradiction
  intro h;exact hb (.inr (.inr h))
 obtain⟨f1,f2,f3,f4,f5,f6,f7⟩:=bN ((bP hM).at (show i.toNat<12 by omega)) hk
 let pg:Int→List UInt8:=fun p=>pgP m.P ((m.t.getD i.toNat default).an.getD p.toNat 0)
 have hpg:∀q,(pg q).length=16:=fun q=>nJ hO.p16 _
 have hsnoc:∀j:Nat,fT pg 0 (j+1)=fT pg 0 j++pg (j:Int):=by
  have:∀j k:Nat,fT pg k (j+1)=fT pg k j++pg ((k+j:Nat):Int):=by
   intro j
   induction j with
   | zero=>intro k;simp [fT]
   | succ j ih=>intro k;rw[fT,ih (k+1),fT,List.append_assoc,show k+1+j=k+(j+1) by omega]
  intro j
  have:=this j 0
  rwa [Nat.zero_add]at this
 refine di (k:= .sl) (l:= .int .i64) (fun(w:Sl) (jj:Int) V4=>∃(j:Nat),jj=j∧j≤5∧Buf V4 w 5 1 (u8s (fT pg 0 j))∧V2.Le (V4.minus w)) (fun _ (jj:Int) _=>5-jj.toNat)
  ⟨0,rfl,by omega,Buf.nil _ _ _,View.Le.refl _⟩ ?_
 rintro(w:Sl) (jj:Int) V4 ⟨j,rfl,hj,hB,hV4⟩
 refine aa (fun hlt=> ?_) (fun hge=> ?_)
 ·have hlt:j<5:=by have:=of_decide_eq_true hlt;omega
  have h4:=hR.grow (View.Le.refl V0) hV4
  refine(af.iN (K:=fun r U' =>∃z:Sl,r= .slice z.a z.n z.c∧SlR U' z (pg (j:Int))) hB ((mM h4 (h.le.trans hV4) hM hO.p16 hi0 hi1 (p:=(j:Int)) (by omega) (by omega) hk).mono fun r U' ⟨z,h1,h2,h3⟩=>⟨⟨z,h1,h2⟩,h3⟩)).mono ?_
  rintro r V5 ⟨U,⟨z,rfl,hz⟩,hU1,hU2,hV45⟩
  have hzn:=hz.n
  have hl5:=oD hpg 0 j
  have hz16:=hpg (j:Int)
  refine⟨z,rfl, ?_⟩
  refine ew (α:=UInt8) (V0:=V5.minus w) (m:=pg (j:Int)) rfl (hB.mono hV45) (cV _) (hz.mono hU2) (View.Le.refl _) (by omega) (by omega) ?_
  intro w' V6 cs' g1 g2 g3
  have e5:=jM g2
  subst e5
  refine⟨au (by omega) (by omega),⟨j+1,by omega,by omega, ?_,hV4.trans (hU1.trans (hU2.trans g3))⟩,by omega⟩
  rw[hsnoc];exact g1
 ·have hge:j=5:=by have:=of_decide_eq_false hge;omega
  subst hge
  have hV24:V2.Le V4:=hV4.trans (View.aj _ _)
  have hw:=hB.slR (W:=V4) (cV _) (View.Le.refl _)
  have hwc:=hw.c;have hwn:=hw.n
  have hl5:=oD hpg 0 5
  obtain⟨ad,sq,en,ha,hcc,hN⟩:=(hR.tre.mono (h.le.trans hV24)).bO (i:=i.toNat) (by omega)
  refine⟨_,rfl,s,by rw[Addr.add_add];exact bx (hV24.see _ _ hR.box) 1 rfl,hi0,by omega,ad,ha,_,av hcc 2 rfl,by omega,f3,by omega, ?_⟩
  rw[show(if w.c=0 then w.a else Option.map (fun(x:Addr)=>x.add 0) w.a)=w.a by rw[cu,ite_self]]
  refine⟨⟨w.a,(m.t.getD i.toNat default).size.toNat,w.c⟩,rfl, ?_,hV24⟩
  rw[yT hpg hk f3 f4]
  exact hw.take (by omega)
theorem DN {s z:Sl} {l k:List Int} {V:View} (h1:SlR V s l) (h2:SlR V z k):af Tryz.prog 26 ⟨[.slice s.a s.n s.c,.slice z.a z.n z.c]⟩ V fun r V' =>r= .bool (decide (l=k))∧V' =V:=by
 refine Gw ?_
 unfold Bo
 have hn1:=h1.n;have hn2:=h2.n;have hl:=h1.lim
 refine aa (fun hb=>⟨?_,rfl⟩) (fun hb=> ?_)
 ·have hb:=of_decide_eq_false (aM hb)
  rw[decide_eq_false]
  rintro rfl;omega
 have hb:=of_decide_eq_true (aD hb)
 refine bh (k:= .int .i64) (fun(jj:Int) V' =>V' =V∧∃j:Nat,jj=j∧j≤l.length∧∀i,i<j→l.getD i 0=k.getD i 0) (fun(jj:Int) _=>l.length-jj.toNat) ⟨rfl,0,rfl,by omega,fun i hi=>by omega⟩ ?_
 rintro(jj:Int) V' ⟨rfl,j,rfl,hj,heq⟩
 refine aa (fun hlt=> ?_) (fun hge=> ?_)
 ·have hlt:j<l.length:=by have:=of_decide_eq_true hlt;omega
  obtain⟨a1,b1,c1,_⟩:=h1.fD hlt
  obtain⟨a2,b2,c2,_⟩:=h2.fD (i:=j) (by omega)
  refine⟨trivial,V',View.Le.refl _,by omega,by omega,a1,b1,_,c1,by omega,by omega,a2,b2,_,c2,aa (fun hc=>⟨?_,rfl⟩) (fun hc=>⟨au (by omega) (by omega),⟨rfl,j+1,by omega,by omega,fun i hi=> ?_⟩,by omega⟩)⟩
  ·have hc:=of_decide_eq_false (aM hc)
   rw[decide_eq_false]
   rintro rfl;exact hc rfl
  ·by_cases e:i=j
   ·subst e;exact of_decide_eq_true (aD hc)
   ·exact heq i (by omega)
 ·have hge:j=l.length:=by have:=of_decide_eq_false hge;omega
  subst hge
  refine⟨?_,rfl⟩
  rw[decide_eq_true]
  apply List.ext_getElem
  ·omega
  ·intro i a b
   have:=heq i a
   rw[bY a,bY b]at this
   exact this
theorem yU {V:View} {a:Ans} {x y x' y' :Sl} (hx:SlR V x a.data) (hy:SlR V y a.names) (hx' :SlR V x' a.data) (hy' :SlR V y' a.names):
  af Tryz.prog 25 ⟨[.agg ⟨M9 a x y⟩,.agg ⟨M9 a x' y'⟩]⟩ V fun r V' =>r= .bool true∧V' =V:=by
 refine LU ?_
 unfold Gv
 have h1:=hy.n;have h2:=hy'.n;have hl:=hy.lim
 refine fun _ _=>aa (fun hb=>absurd hb (by rw[decide_eq_true (show((y.n:Nat):Int)=(y'.n:Nat) by omega)];decide)) (fun _=> ?_)
 refine bh (k:= .int .i64) (fun(jj:Int) V' =>V' =V∧∃j:Nat,jj=j∧j≤a.names.length) (fun(jj:Int) _=>a.names.length-jj.toNat) ⟨rfl,0,rfl,by omega⟩ ?_
 rintro(jj:Int) V' ⟨rfl,j,rfl,hj⟩
 refine aa (fun hlt=> ?_) (fun hge=> ?_)
 ·have hlt:j<a.names.length:=by have:=of_decide_eq_true hlt;omega
  obtain⟨a1,b1,c1,_⟩:=hy.Aj hlt
  obtain⟨a2,b2,c2,_⟩:=hy'.Aj hlt
  refine⟨trivial,V',View.Le.refl _,by omega,by omega,a1,b1,_,c1,by omega,by omega,a2,b2,_,c2,aa (fun hc=>absurd hc (by simp)) (fun _=>⟨au (by omega) (by omega),⟨rfl,j+1,by omega,by omega⟩,by omega⟩)⟩
 ·refine ai (fun z V1=>z.1=true∧V1=V') (aa (fun _=>⟨ba a.data,qJ hx,ba a.data,qJ hx',by simp,rfl⟩) (fun h=>absurd h (by simp))) ?_
  rintro⟨z,⟨⟩⟩ V1 ⟨h1,hV⟩
  have h1:z=true:=h1
  have hV:V1=V' :=hV
  subst h1 hV
  exact⟨rfl,rfl⟩
end
section
variable {V0 V:View} {q:Nat} {m:bQ} {c:Cal} {y:Sl}
theorem DO (h:pE V0 V q m) (hO:OkH m) (hsq:m.seq+80≤1099511627776) (hc:kQ V0 y c):
  af Tryz.prog 24 ⟨[.pointer (some ⟨q,0,none⟩),q8 c y]⟩ V fun r V' =>AH V0 V V' q r (doP m c) (aK m c).a (cv m c):=by
 refine LS ?_
 unfold Gu
 have hM:=hO.may
 have h12:=(bP hM).len
 obtain⟨s,hs,bs,B,hR⟩:=h.ex
 have hle:=h.le
 have hn:=h.nq
 have hD:∀P Q:Prop,∀ [Decidable P] [Decidable Q],(P↔Q)→decide P=decide Q:=fun P Q _ _ h=>decide_eq_decide.2 h
 have tup:∀ {V2:View} {r:Value} {m' :bQ} {a:Ans} {w:Bool},AH V0 V V2 q r m' a w→∃(x x1 x2 x3 x4:Int) (x5 x6:Sl) (x7:Bool),r= .tuple ⟨[.agg ⟨[.int .i64 x,.int .i64 x1,.int .i64 x2,.int .i64 x3,.int .i64 x4,.slice x5.a x5.n x5.c,.slice x6.a x6.n x6.c]⟩,.bool x7]⟩∧AH V0 V V2 q (.tuple ⟨[.agg ⟨[.int .i64 x,.int .i64 x1,.int .i64 x2,.int .i64 x3,.int .i64 x4,.slice x5.a x5.n x5.c,.slice x6.a x6.n x6.c]⟩,.bool x7]⟩) m' a w:=by
  rintro V2 r m' a w ⟨V02,h1,h2,x,⟨xa,xb,rfl,h3,h4⟩,rfl⟩
  exact⟨_,_,_,_,_,xa,xb,_,rfl,V02,h1,h2,_,⟨xa,xb,rfl,h3,h4⟩,rfl⟩
 intro _ _
 refine ai (fun z V2=>z.1=decide (1≤c.kind∧c.kind≤6)∧V2=V) (aa (fun h=>⟨hD _ _ (by have:=of_decide_eq_true h;omega),rfl⟩) (fun h1=> ?_)) ?_
 ·refine ai (fun z V2=>z.1=decide (1≤c.kind∧c.kind≤6)∧V2=V) (aa (fun h=>⟨hD _ _ (by have:=of_decide_eq_true h;omega),rfl⟩) (fun h2=> ?_)) (by rintro⟨z,⟨⟩⟩ V2 h;exact h)
  refine ai (fun z V2=>z.1=decide (1≤c.kind∧c.kind≤6)∧V2=V) (aa (fun h=>⟨hD _ _ (by have:=of_decide_eq_true h;omega),rfl⟩) (fun h3=> ?_)) (by rintro⟨z,⟨⟩⟩ V2 h;exact h)
  refine ai (fun z V2=>z.1=decide (1≤c.kind∧c.kind≤6)∧V2=V) (aa (fun h=>⟨hD _ _ (by have:=of_decide_eq_true h;omega),rfl⟩) (fun h4=> ?_)) (by rintro⟨z,⟨⟩⟩ V2 h;exact h)
  refine ai (fun z V2=>z.1=decide (1≤c.kind∧c.kind≤6)∧V2=V) (aa (fun h=>⟨hD _ _ (by have:=of_decide_eq_true h;omega),rfl⟩) (fun h5=>⟨hD _ _ ?_,rfl⟩)) (by rintro⟨z,⟨⟩⟩ V2 h;exact h)
  have a1:=of_decide_eq_false h1
  have a2:=of_decide_eq_false h2
  have a3:=of_decide_eq_false h3
  have a4:=of_decide_eq_false h4
  have a5:=of_decide_eq_false h5
  omega
 rintro⟨z,⟨⟩⟩ V2 ⟨hz,hV⟩
 have hz:z=decide (1≤c.kind∧c.kind≤6):=hz
 have hV:V2=V:=hV
 subst hz hV
 dsimp only [unc]
 refine aa (fun hk=>(xl hR hle hn hO hc (of_decide_eq_true hk)).mono fun r V3 h3=>tup h3) (fun hk=> ?_)
 have hk1:=of_decide_eq_false hk
 refine ai (fun z V3=>z.1=decide (7≤c.kind∧c.kind≤9)∧V3=V2) (aa (fun h=>⟨hD _ _ (by have:=of_decide_eq_true h;omega),rfl⟩) (fun h1=> ?_)) ?_
 ·refine ai (fun z V3=>z.1=decide (7≤c.kind∧c.kind≤9)∧V3=V2) (aa (fun h=>⟨hD _ _ (by have:=of_decide_eq_true h;omega),rfl⟩) (fun h2=>⟨hD _ _ ?_,rfl⟩)) (by rintro⟨z,⟨⟩⟩ V3 h;exact h)
  have a1:=of_decide_eq_false h1
  have a2:=of_decide_eq_false h2
  omega
 rintro⟨z,⟨⟩⟩ V3 ⟨hz,hV⟩
 have hz:z=decide (7≤c.kind∧c.kind≤9):=hz
 have hV:V3=V2:=hV
 subst hz hV
 dsimp only [unc]
 refine aa (fun hk=>(xm hR hle hn hO hc (of_decide_eq_true hk)).mono ?_) (fun hk=> ?_)
 ·rintro r V4 ⟨⟨V04,h1,h2,x,y',rfl,h3,h4⟩,hw⟩
  refine⟨_,_,_,_,_,x,y',rfl,V04,h1,h2,_,⟨x,y',rfl,h3,h4⟩, ?_⟩
  rw[hw]
 have hk2:=of_decide_eq_false hk
 refine aa (fun hk=> ?_) (fun hk=> ?_)
 ·have hk:=of_decide_eq_true hk
  have hDP:bH m c=gU m c:=by unfold bH;rw[if_neg hk1,if_neg hk2,if_pos hk]
  have hP:gU m c=match dO m.h c.hand with
   | .error e=> .error e
   | .ok (h,i)=>if(m.t.getD i.toNat default).links=0∧ct (de h) i.toNat=false then match c9 m.t i with
     | .error e=> .error e
     | .ok t=> .ok ⟨t,h,[],Ans.e 0⟩
     else .ok ⟨m.t,h,[],Ans.e 0⟩:=rfl
  rw[hP]at hDP
  refine⟨trivial,V3,View.Le.refl _,_,rfl,hs,bx hR.box 2 rfl, ?_⟩
  refine(af.stp (B:=fun i=>i=q) (K:=fun r V' =>∃W,wH W V' r (dO m.h c.hand)) hle ((wK hR.bW).mono fun r V' h=>⟨⟨_,h⟩, ?_⟩)).mono ?_
  ·cases ho:dO m.h c.hand with
   | error e=>rw[ho]at h;rw[h.2];exact View.Le.refl _
   | ok o=>rw[ho]at h;obtain⟨x,_,_,h3⟩:=h;exact h3
  rintro r V4 ⟨V04,⟨W,hx⟩,hS4,hV4⟩
  have hR4:=hR.grow hS4.base hV4
  have hn4:V04.see q=none:=hS4.apart _ hn (by rw[hR.box];simp)
  cases ho:dO m.h c.hand with
  | error e=>
    rw[ho]at hx hDP
    obtain⟨rfl,_⟩:=hx
    exact⟨⟨none,0,0⟩,_,_,rfl,aa (fun _=>rJ hR hn hS4 hR4 hDP) (fun h=>absurd (of_decide_eq_true (aD h)) (ow ho))⟩
  | ok o=>
    obtain⟨l,n⟩:=o
    rw[ho]at hx hDP
    obtain⟨x,rfl,hx,_⟩:=hx
    dsimp only at hDP
    obtain⟨hoff,hn0,hn12,hol,hle',hh0,hh4,hne⟩:=iP ho
    have hkn:ak m.t n.toNat=1:=hO.file _ (by
     unfold o4
     rw[show((n.toNat:Nat):Int)=n by omega,hne]
     exact ot (by rw[cT hoff];omega))
    have hlk:=(bN ((bP hM).at (show n.toNat<12 by omega)) hkn).1
    obtain⟨c1,c2,c3⟩:=hR4.rI hS4.sub hn4 hx
    refine⟨x,_,_,rfl,aa (fun h=>absurd h (by decide)) (fun _=>⟨_,rfl,c1, ?_⟩)⟩
    generalize V4.sets ((⟨q,0,none⟩:Addr).add 2) [.slice x.a x.n x.c]=V5 at c2 c3
    have hsn:=c2.tre.n
    obtain⟨ad,sq,en,ha,hcc,hN⟩:=(c2.tre.mono c3.sub).bO (i:=n.toNat) (by dsimp only;omega)
    have hsn:s.n=m.t.length:=hsn
    refine ai (fun z V6=>z.1= !decide ((m.t.getD n.toNat default).links=0∧ct (de l) n.toNat=false)∧V5.Le V6) ⟨_,rfl,s,by rw[Addr.add_add];exact bx c2.box 1 rfl,by omega,by omega,ad,ha,_,av hcc 1 rfl,aa (fun hb=>⟨?_,View.Le.refl _⟩) (fun hb=> ?_)⟩ ?_
    ·have hb:0<(m.t.getD n.toNat default).links:=of_decide_eq_true hb
     rw[decide_eq_false (fun h=>by omega)];rfl
    ·have hb:¬0<(m.t.getD n.toNat default).links:=of_decide_eq_false hb
     refine(q6 (hx.mono c3.sub)).mono ?_
     rintro r V6 ⟨z,rfl,hz,hV6⟩
     have hzn:=hz.n
     rw[lA hol]at hzn
     obtain⟨ad2,ha2,hc2⟩:=hz.HR (i:=n.toNat) (by rw[lA hol];omega)
     refine⟨z,rfl,by omega,by omega,ad2,ha2,_,hc2, ?_,hV6⟩
     show(de l).getD n.toNat false= !decide ((m.t.getD n.toNat default).links=0∧ct (de l) n.toNat=false)
     unfold ct
     rcases Bool.eq_false_or_eq_true ((de l).getD n.toNat false)with h | h
     ·rw[h,decide_eq_false (fun h=>by cases h.2)];rfl
     ·rw[h,decide_eq_true ⟨by omega,rfl⟩];rfl
    rintro⟨z,⟨⟩⟩ V6 ⟨hz,hV6⟩
    have hz:z= !decide ((m.t.getD n.toNat default).links=0∧ct (de l) n.toNat=false):=hz
    have hV6:V5.Le V6:=hV6
    subst hz
    dsimp only [unc]
    have hR6:=c2.grow (View.Le.refl V04) hV6
    have hS6:=(hS4.trans c3).trans (Mv.grow (B:=fun i=>i=q) c3.sub hV6)
    refine aa (fun hb=> ?_) (fun hb=> ?_)
    ·have hb:=of_decide_eq_false (aM hb)
     rw[if_neg hb]at hDP
     have hp:=cA hDP
     obtain⟨d1,d2⟩:=gM hp rfl
     rw[d1,d2,hp]
     refine⟨V04,hS6,⟨hS6.sub,hn4,s,x,bs,B,hR6⟩,_,yR 0,by simp⟩
    ·have hb:=of_decide_eq_true (aD hb)
     rw[if_pos hb]at hDP
     have hdr:c9 m.t n= .ok (m.t.set n.toNat Nod.zero):=by
      unfold c9
      rw[if_pos hM,if_pos ⟨hn0,hn12,hkn,by omega⟩]
     rw[hdr]at hDP
     dsimp only at hDP
     refine⟨_,rfl,s,bx1 hR6.box 1 rfl,(af.stp (B:=fun i=>i=q) (K:=fun r V' =>gH V04 V' r (c9 m.t n)) hS6.sub ((yP hR6.tre).mono fun r V' h=>⟨h,h.2⟩)).mono ?_⟩
     rintro r V7 ⟨V07,⟨⟨w,e,rfl,hw⟩,_⟩,hS7,hV7⟩
     rw[hdr]at hw
     obtain⟨rfl,hw⟩:=hw
     have hR7:=hR6.grow hS7.base hV7
     have hn7:V07.see q=none:=hS7.apart _ hn4 (by rw[hR6.box];simp)
     obtain⟨t1,t2,t3⟩:=hR7.tree hS7.sub hn7 hw (uZ (k:=n.toNat) (n:=Nod.zero) (fun p=> .inl (by simp [Nod.zero])))
     have hp:=cA hDP
     obtain⟨d1,d2⟩:=gM hp rfl
     rw[d1,d2,hp]
     refine⟨w,_,rfl,_,rfl,t1,V07,(hS6.trans hS7).trans t3,⟨t3.sub,hn7,w,x,bs,B,t2⟩,_,yR 0, ?_⟩
     rw[decide_eq_false]
     ·rfl
     ·intro e
      have h1:=congrArg (fun t=>ak t n.toNat) e
      dsimp only at h1
      rw[hkn]at h1
      unfold ak at h1
      rw[fC,if_pos ⟨rfl,by omega⟩]at h1
      cases h1
 have hk3:=of_decide_eq_false hk
 refine ai (fun z V4=>z.1=decide (11≤c.kind∧c.kind≤13)∧V4=V3) (aa (fun h=>⟨hD _ _ (by have:=of_decide_eq_true h;omega),rfl⟩) (fun h1=> ?_)) ?_
 ·refine ai (fun z V4=>z.1=decide (11≤c.kind∧c.kind≤13)∧V4=V3) (aa (fun h=>⟨hD _ _ (by have:=of_decide_eq_true h;omega),rfl⟩) (fun h2=>⟨hD _ _ ?_,rfl⟩)) (by rintro⟨z,⟨⟩⟩ V4 h;exact h)
  have a1:=of_decide_eq_false h1
  have a2:=of_decide_eq_false h2
  omega
 rintro⟨z,⟨⟩⟩ V4 ⟨hz,hV⟩
 have hz:z=decide (11≤c.kind∧c.kind≤13):=hz
 have hV:V4=V3:=hV
 subst hz hV
 dsimp only [unc]
 refine aa (fun hk=>(u0 hR hle hn hO hsq hc (of_decide_eq_true hk)).mono fun r V3 h3=>tup h3) (fun hk=> ?_)
 have hk4:=of_decide_eq_false hk
 refine aa (fun hk=> ?_) (fun hk=>aa (fun hk6=> ?_) (fun hk6=> ?_))
 ·have hDP:bH m c= .ok ⟨m.t,m.h,[],Ans.e 0⟩:=by unfold bH;rw[if_neg hk1,if_neg hk2,if_neg hk3,if_neg hk4,if_pos (of_decide_eq_true hk)]
  have hp:=cA hDP
  obtain⟨d1,d2⟩:=gM hp rfl
  rw[d1,d2,hp]
  exact⟨V0,Mv.refl hle,⟨hle,hn,s,hs,bs,B,hR⟩,_,yR 0,by simp⟩
 ·have hDP:bH m c= .ok ⟨m.t,m.h,[],⟨0,0,kE m.t m.data,0,js m.t,[],[]⟩⟩:=by unfold bH;rw[if_neg hk1,if_neg hk2,if_neg hk3,if_neg hk4,if_neg (of_decide_eq_false hk),if_pos (of_decide_eq_true hk6)]
  have hp:=cA hDP
  obtain⟨d1,d2⟩:=gM hp rfl
  rw[d1,d2,hp]
  refine⟨trivial,V4,View.Le.refl _,_,rfl,s,bx1 hR.box 1 rfl,_,rfl,_,bx hR.box 0 rfl,_,rfl,s,bx1 hR.box 1 rfl,(xU (hR.tre.mono hle) (by have:=hO.d2;omega)).mono ?_⟩
  rintro r V5 ⟨rfl,rfl⟩
  refine⟨_,rfl,View.Le.refl _,(vO (hR.tre.mono hle)).mono ?_⟩
  rintro r V6 ⟨rfl,rfl⟩
  exact⟨_,rfl,V0,Mv.refl hle,⟨hle,hn,s,hs,bs,B,hR⟩,_,⟨⟨none,0,0⟩,⟨none,0,0⟩,rfl,SlR.nil _ _ _,SlR.nil _ _ _⟩,by simp⟩
 ·have hDP:bH m c= .error 1:=by unfold bH;rw[if_neg hk1,if_neg hk2,if_neg hk3,if_neg hk4,if_neg (of_decide_eq_false hk),if_neg (of_decide_eq_false hk6)]
  exact rJ hR hn (Mv.refl hle) hR hDP
theorem xo {V:View} :af Tryz.prog 45 ⟨[]⟩ V fun r V' =>∃x:Sl,r=aZ x∧SlR V' x firstT∧V.Le V' :=by
 refine Mb (_u:=()) ?_
 unfold GP
 refine fun _=>⟨by decide,by decide,by decide,by decide,fun r hr=> ?_⟩
 have hfr:=View.ax hr
 have hp:=View.bB (o:= .cells ⟨(List.replicate 12 (gP Nod.zero)).flatten⟩ 63 (0,0)) hfr
 have hs0:(V.put r (.cells ⟨(List.replicate 12 (gP Nod.zero)).flatten⟩ 63 (0,0))).see r=some (.cells ⟨(List.replicate 12 (gP Nod.zero)).flatten⟩ 63 (0,0)):=View.ah _ _ _
 refine fun _=>⟨trivial,V,hp,o5.mono ?_⟩
 rintro r1 V1 ⟨⟨s1,e1,rfl,hN⟩,hV1⟩
 have hs1:=hV1.see _ _ hs0
 have ee:aQ 2=uz:=rfl
 rw[ee]at hN
 refine⟨_,_,_,s1,e1,rfl,hp.trans hV1,by decide,by decide,_,rfl,bJ hs1 (by decide),⟨some ⟨r,0,none⟩,12,12⟩,rfl, ?_, ?_⟩
 ·have e:(⟨r,0,none⟩:Addr).add 0=⟨r,0,none⟩:=rfl
  rw[e,bn hs1]
  have hs3:SlR (V1.put r (.cells ⟨bD (List.replicate 12 (gP Nod.zero)).flatten 0 [.int .i64 (aQ 2).kind,.int .i64 (aQ 2).links,.int .i64 (aQ 2).size,.slice s1.a s1.n s1.c,.slice e1.a e1.n e1.c]⟩ 63 (0,0))) s1 uz.an:=⟨hN.an.n,hN.an.c,hN.an.lim,fun i hi=>absurd hi (by simp [uz])⟩
  have hs4:SlR (V1.put r (.cells ⟨bD (List.replicate 12 (gP Nod.zero)).flatten 0 [.int .i64 (aQ 2).kind,.int .i64 (aQ 2).links,.int .i64 (aQ 2).size,.slice s1.a s1.n s1.c,.slice e1.a e1.n e1.c]⟩ 63 (0,0))) e1 uz.az:=⟨hN.az.n,hN.az.c,hN.az.lim,fun i hi=>absurd hi (by simp [uz])⟩
  exact bK (α:=Nod) (l:=firstT) (W:=V1.put r (.cells ⟨bD (List.replicate 12 (gP Nod.zero)).flatten 0 [.int .i64 (aQ 2).kind,.int .i64 (aQ 2).links,.int .i64 (aQ 2).size,.slice s1.a s1.n s1.c,.slice e1.a e1.n e1.c]⟩ 63 (0,0))) (View.ah _ _ _) ⟨[.int .i64 (aQ 2).kind,.int .i64 (aQ 2).links,.int .i64 (aQ 2).size,.slice s1.a s1.n s1.c,.slice e1.a e1.n e1.c],(List.replicate 11 (gP Nod.zero)).flatten,rfl,⟨s1,e1,rfl,zi,oO,zero64,hs3,hs4⟩,oc 11⟩ (View.Le.refl _) (by decide)
 ·have e:(⟨r,0,none⟩:Addr).add 0=⟨r,0,none⟩:=rfl
  rw[e,bn hs1]
  exact((aT hfr (View.Le.refl _)).trans (jh hV1 r)).trans (ku r _)
theorem AM (hle:V0.Le V) {d:Int} :af Tryz.prog 21 ⟨[.int .i64 d]⟩ V fun r V' =>∃(V0' :View) (q:Nat),r= .pointer (some ⟨q,0,none⟩)∧Mv NoB V0 V V0' V' ∧V.see q=none∧pE V0' V' q (r6 d):=by
 refine LP ?_
 unfold Gr
 refine(af.stp (B:=NoB) (K:=fun r V' =>∃x:Sl,r=aZ x∧SlR V' x firstT) hle (xo.mono fun r V' ⟨x,h1,h2,h3⟩=>⟨⟨x,h1,h2⟩,h3⟩)).mono ?_
 rintro r V1 ⟨V01,⟨x,rfl,hx⟩,hS1,hV1⟩
 refine⟨x,rfl, ?_⟩
 refine(af.stp (B:=NoB) (K:=fun r V' =>∃x:Sl,r= .slice x.a x.n x.c∧SlR V' x iY) hS1.sub (lP.mono fun r V' ⟨x,h1,h2,h3⟩=>⟨⟨x,h1,h2⟩,h3⟩)).mono ?_
 rintro r V2 ⟨V02,⟨z,rfl,hz⟩,hS2,hV2⟩
 refine⟨z,rfl,fun q hq=> ?_⟩
 have hS12:=hS1.trans hS2
 have hnq:V02.see q=none:=b5 hS2.sub hq
 have hS3:Mv NoB V02 V2 V02 (V2.put q (.cells ⟨[.int .i64 d,.slice x.a x.n x.c,.slice z.a z.n z.c,.int .i64 0]++List.replicate 60 (.slice none 0 0)⟩ 56 (0,0))):=Mv.put _ hS2.sub hnq (.inr hq)
 have hrow:∀k,aR V02 (List.replicate k (.slice none 0 0)) (List.replicate k ([]:List UInt8)):=by
  intro k
  induction k with
  | zero=>rfl
  | succ k ih=>exact⟨[.slice none 0 0],List.replicate k (.slice none 0 0),rfl,⟨⟨none,0,0⟩,rfl,SlR.nil _ _ _⟩,ih⟩
 refine⟨V02,q,rfl,hS12.trans hS3,b5 (hV1.trans hV2) hq,hS3.sub,hnq,x,z,List.replicate 60 (.slice none 0 0),List.replicate 60 [],View.ah _ _ _,hx.mono hS2.base,hz,hrow 60,by simp,fun i p hi hp hne=> ?_⟩
 exfalso
 apply hne
 have:∀i,i<12→(firstT.getD i default).an= []:=by decide
 rw[show(r6 d).t=firstT from rfl,this i hi];rfl
end
theorem yV {s:Sl} {l:List Cal} {V:View} (h:SlR V s l):af Tryz.prog 11 ⟨[.slice s.a s.n s.c]⟩ V fun r V' =>∃x:Int,r= .int .i64 x∧0≤x∧x≤151∧(x=0→l.length≤150∧∀c∈l,c.data.length≤300)∧V' =V:=by
 refine LG ?_
 unfold Gg
 have hn:=h.n
 refine bh (k:= .int .i64) (fun(j:Int) V' =>V' =V∧∃i:Nat,j=i∧i≤l.length∧i≤150∧∀k,k<i→(l.getD k default).data.length≤300) (fun(j:Int) _=>l.length-j.toNat) ⟨rfl,0,rfl,by omega,by omega,fun k hk=>by omega⟩ ?_
 rintro(j:Int) V' ⟨rfl,i,rfl,hi,h150,hall⟩
 have hw:IntKind.wrap .i64 ((i:Int)+1)=(i:Int)+1:=xP (au (by omega) (by omega))
 refine aa (fun hlt=> ?_) (fun hge=> ?_)
 ·have hlt:i<l.length:=by have:=of_decide_eq_true hlt;omega
  obtain⟨ad,y,ha,hc,hC⟩:=h.M8 hlt
  have hyn:=hC.data.n
  refine⟨by omega,by omega,ad,ha,_,_,_,_,_,_,y,hc,fun _=> ?_⟩
  refine ai (fun q V1=>(q.1=false→i<150∧(l.getD i default).data.length≤300)∧V1=V') (aa (fun hb=>⟨fun h=>(by cases h),rfl⟩) (fun hb=>⟨fun hf=> ?_,rfl⟩)) ?_
  ·have hb:=of_decide_eq_false hb
   have hf:(bif decide ((300:Int)<IntKind.wrap .i64 (((l.getD i default).path.size:Int)+((l.getD i default).to_.size:Int)))then true else decide ((300:Int)<(y.n:Int)))=false:=hf
   refine⟨by omega, ?_⟩
   cases hd:decide ((300:Int)<IntKind.wrap .i64 (((l.getD i default).path.size:Int)+((l.getD i default).to_.size:Int)))with
   | true=>rw[hd]at hf;cases hf
   | false=>
     rw[hd]at hf
     have:=of_decide_eq_false hf
     omega
  rintro⟨q,⟨⟩⟩ V1 ⟨h1,hV⟩
  have hV:V1=V' :=hV
  subst hV
  dsimp only [unc]
  rw[hw]
  refine aa (fun hq=>⟨_,rfl,by omega,by omega,fun h0=>by omega,rfl⟩) (fun hq=> ?_)
  obtain⟨h2,h3⟩:=h1 hq
  refine⟨⟨rfl,i+1,by omega,by omega,by omega,fun k hk=> ?_⟩,by omega⟩
  by_cases e:k=i
  ·subst e;exact h3
  ·exact hall k (by omega)
 ·have hge:i=l.length:=by have:=of_decide_eq_false hge;omega
  subst hge
  refine⟨0,rfl,by omega,by omega,fun _=>⟨by omega,fun c hc=> ?_⟩,rfl⟩
  obtain⟨k,hk,rfl⟩:=List.getElem_of_mem hc
  have:=hall k hk
  rw[aB hk]at this
  exact this
def pA:ByteArray:=ba [47,97]
def TA:Tre:=(aJ firstT 0 [⟨ba [97],1⟩]).set 1 (aQ 1)
def cC:Cal:=⟨1,pA,ba [],0,0,0,[]⟩
def cO:Cal:=⟨9,pA,ba [],0,0,0,[]⟩
def cW:Cal:=⟨12,ba [],ba [],0,2,0,[120,121]⟩
def cR:Cal:=⟨11,ba [],ba [],0,0,9,[]⟩
def cS:Cal:=⟨14,ba [],ba [],0,0,0,[]⟩
def cX:Cal:=⟨99,ba [],ba [],0,0,0,[]⟩
theorem Nr:Par firstT pA [] 0 (ba [97]):=⟨mj,by decide,rfl,by decide⟩
theorem Nd:cZ firstT pA 1= .ok TA:=by
 unfold cZ
 rw[Nr.eq]
 have h1:atI (ag firstT 0) (ba [97])= -1:=by decide
 have h2:(ag firstT 0).length=0:=by decide
 show(if 0≤atI (ag firstT 0) (ba [97])then _ else _)=_
 rw[h1,if_neg (by decide),ya,if_neg (by decide),h2,if_neg (by decide)]
 rfl
theorem HT:aK (r6 5) cC=⟨TA,iY,[],Ans.e 0⟩:=by
 refine cA ?_
 unfold bH
 rw[if_pos (by decide)]
 have:cr (r6 5) cC= .ok TA:=by
  unfold cr
  rw[if_pos (by decide)]
  exact Nd
 rw[this];rfl
def m1:bQ:=⟨5,TA,iY,fun _=>none,0⟩
theorem do1:doP (r6 5) cC=m1:=(gM HT rfl).1
theorem ok1:OkH m1:=by rw[←do1];exact(OkH.new (by decide) (by decide)).step (by decide)
def h1A:List Int:= [1, -1, -1, -1]
theorem Nf:b8 TA pA= .ok 1:=by
 have P:Par TA pA [] 0 (ba [97]):=⟨ok1.may,by decide,rfl,by decide⟩
 exact P.found (by decide)
theorem HU:aK m1 cO=⟨TA,h1A,[],Ans.e 0⟩:=by
 refine cA ?_
 unfold bH
 rw[if_neg (by decide),if_pos (by decide)]
 unfold gr
 rw[show m1.t=TA from rfl,show cO.path=pA from rfl,Nf]
 show(if cO.kind=7 then _ else _)=_
 rw[if_neg (by decide),if_neg (by decide),if_neg (by decide),if_neg (by decide)]
 have:eV m1.h ((1:Nat):Int)= .ok (h1A,0):=rfl
 rw[this];rfl
def m2:bQ:=⟨5,TA,h1A,fun _=>none,0⟩
theorem do2:doP m1 cO=m2:=(gM HU rfl).1
theorem ok2:OkH m2:=by rw[←do2];exact ok1.step (by decide)
def tdA:Tod:=⟨1,0,0,16,2,[120,121]⟩
def TB:Tre:=TA.set 1 { TA.getD 1 default with size:=4 }
theorem HV {t:Tre} (h:aY t=true) (hl:t.length=12) (hk:ak t 1=1):bL t 1=true:=by
 unfold bL
 rw[h,Bool.true_and]
 exact decide_eq_true ⟨by decide,by omega,hk⟩
theorem Lp:cE TA 5 1 2 [120,121]= .ok (TB,[tdA]):=by
 have hf:bL TA 1=true:=HV ok1.may (by decide) (by decide)
 unfold cE
 rw[hf,if_neg (by decide),if_neg (by decide),if_neg (by decide)]
 have h1:gD TA=0:=by decide
 have h2:jt (TA.getD 1 default) 2 2=1:=by decide
 rw[h1]
 show(if(5:Int)<((0:Nat):Int)+((jt (TA.getD 1 default) 2 2:Nat):Int)then _ else _)=_
 rw[h2,if_neg (by decide)]
 rfl
theorem HW:aK m2 cW=⟨TB,h1A,[tdA],⟨0,0,2,0,0,[],[]⟩⟩:=by
 refine cA ?_
 unfold bH
 rw[if_neg (by decide),if_neg (by decide),if_neg (by decide),if_pos (by decide)]
 unfold j5
 have:ofH m2.h cW.hand= .ok 1:=rfl
 rw[this]
 show(if cW.kind=12 then _ else _)=_
 rw[if_pos (by decide),show cE m2.t m2.data 1 cW.at_ cW.data= .ok (TB,[tdA])from Lp]
 rfl
def TC:Tre:=TB.set 1 { TB.getD 1 default with an:= [1,0,0,0,0] }
def PC:Int→Option (List UInt8):=cM (fun _=>none) 0 [tdA]
def m3:bQ:=⟨5,TC,h1A,PC,1⟩
theorem do3:doP m2 cW=m3:=by
 unfold doP
 rw[HW]
 rfl
theorem ok3:OkH m3:=by rw[←do3];exact ok2.step (by decide)
theorem HX:aK m3 cR=⟨TC,h1A,[],⟨0,0,4,0,0,[0,0,120,121],[]⟩⟩:=by
 refine cA ?_
 unfold bH
 rw[if_neg (by decide),if_neg (by decide),if_neg (by decide),if_pos (by decide)]
 unfold j5
 have:ofH m3.h cR.hand= .ok 1:=rfl
 rw[this]
 show(if cR.kind=12 then _ else _)=_
 rw[if_neg (by decide),if_neg (by decide)]
 have hr:dQ m3.t 1 cR.at_ cR.len= .ok [⟨0,0,4⟩]:=by
  have hf:bL m3.t 1=true:=HV ok3.may (by decide) (by decide)
  unfold dQ
  rw[if_neg (by rw[hf];decide)]
  rfl
 rw[hr]
 rfl
def m4:bQ:=m3
theorem do4:doP m3 cR=m3:=(gM HX rfl).1
theorem Ng:cv m3 cS=false:=by
 have:aK m3 cS=⟨TC,h1A,[],Ans.e 0⟩:=by
  refine cA ?_
  unfold bH
  rw[if_neg (by decide),if_neg (by decide),if_neg (by decide),if_neg (by decide),if_pos (by decide)]
  rfl
 unfold cv
 rw[this]
 show(false || !decide (TC=TC))=false
 simp
theorem Nh:(aK m3 cX).a=Ans.e 1:=by
 refine(pQ ?_).2.2
 unfold bH
 rw[if_neg (by decide),if_neg (by decide),if_neg (by decide),if_neg (by decide),if_neg (by decide),if_neg (by decide)]
theorem nP {W:View} {c:Cal} (h1:inI .i64 c.kind) (h2:c.path.size≤100) (h3:c.to_.size≤100) (h4:inI .i64 c.hand) (h5:inI .i64 c.at_) (h6:inI .i64 c.len) (h7:c.data= []):kQ W ⟨none,0,0⟩ c:=
 ⟨h1,by omega,by omega,h4,h5,h6,by rw[h7];exact SlR.nil _ _ _⟩
theorem yW {V:View} (hg:Glo V):af Tryz.prog 12 ⟨[]⟩ V fun r V' =>r= .bool true∧V.Le V' :=by
 refine LH (_u:=()) ?_
 unfold Gh
 have small:∀n:Int,0≤n→n≤1000→inI .i64 n:=fun n h1 h2=>au (by omega) (by omega)
 have z:=small 0 (by decide) (by decide)
 refine(tD (View.Le.refl V) (d:=5) (by decide) (by decide)).mono ?_
 rintro r V1 ⟨V01,p,mb,rfl,hS1,hp0,hmb0,hm1⟩
 have hO1:OkH (r6 5):=OkH.new (by decide) (by decide)
 refine⟨_,rfl,(jE (c:=cC) (y:=⟨none,0,0⟩) hm1 hO1.toOkP (by decide) (nP (small 1 (by decide) (by decide)) (by decide) (by decide) z z z rfl) (hg.mono hS1.base)).mono ?_⟩
 rintro r V2 ⟨V02,hS2,hm2,x,y,rfl,hx,hy⟩
 rw[do1]at hm2
 rw[HT]at*
 refine⟨_,_,_,_,_,x,y,rfl,fun _=>(jE (c:=cO) (y:=⟨none,0,0⟩) hm2 ok1.toOkP (by decide) (nP (small 9 (by decide) (by decide)) (by decide) (by decide) z z z rfl) (hg.mono (hS1.base.trans hS2.base))).mono ?_⟩
 rintro r V3 ⟨V03,hS3,hm3,x3,y3,rfl,hx3,hy3⟩
 rw[do2]at hm3
 rw[HU]at*
 refine⟨_,_,_,_,_,x3,y3,rfl,fun _ b hb=> ?_⟩
 have hfr:=View.ax hb
 refine⟨_,_,View.ah _ _ _, ?_⟩
 rw[View.uO]
 have hn3:V03.see b=none:=b5 hm3.le hfr
 have hSb:Mv (fun i=>i=p∨i=mb) V03 V3 (V03.put b (.cells ⟨u8s [120,121]⟩ 5 (2,3))) (V3.put b (.cells ⟨u8s [120,121]⟩ 5 (2,3))):=Mv.new _ hm3.le hfr
 have hbp:p≠b:=by
  rintro rfl
  obtain⟨s,hs,es,cl,hc⟩:=hm3.ex
  rw[hc.box]at hfr;cases hfr
 have hbm:mb≠b:=by
  rintro rfl
  obtain⟨s,hs,es,cl,hc⟩:=hm3.ex
  rw[hc.map]at hfr;cases hfr
 have hSb' :Mv NoB V03 V3 (V03.put b (.cells ⟨u8s [120,121]⟩ 5 (2,3))) (V3.put b (.cells ⟨u8s [120,121]⟩ 5 (2,3))):=Mv.new _ hm3.le hfr
 have hm3b:=hm3.stp hSb' id id
 have hcW:kQ (V03.put b (.cells ⟨u8s [120,121]⟩ 5 (2,3))) ⟨some ⟨b,0,none⟩,2,2⟩ cW:=by
  refine⟨small 12 (by decide) (by decide),by decide,by decide,z,small 2 (by decide) (by decide),z, ?_⟩
  refine⟨rfl,Nat.le_refl _,(show(2:Nat)≤9223372036854775807 by decide),fun i hi=> ?_⟩
  have hi:i<2:=hi
  refine⟨⟨b,0,none⟩,[.int .u8 (([120,121]:List UInt8).getD i 0).toNat],rfl,bT.2 ?_, ?_⟩
  ·rw[aW]
   refine bX (View.ah _ _ _) ?_
   match i,hi with
   | 0,_=>rfl
   | 1,_=>rfl
  ·match i,hi with
   | 0,_=>rfl
   | 1,_=>rfl
 refine(jE (c:=cW) (y:=⟨some ⟨b,0,none⟩,2,2⟩) hm3b ok2.toOkP (by decide) hcW (hg.mono (hS1.base.trans (hS2.base.trans (hS3.base.trans hSb'.base))))).mono ?_
 rintro r V4 ⟨V04,hS4,hm4,x4,y4,rfl,hx4,hy4⟩
 rw[do3]at hm4
 rw[HW]at*
 have hg4:Glo V04:=hg.mono (hS1.base.trans (hS2.base.trans (hS3.base.trans (hSb'.base.trans hS4.base))))
 refine⟨_,_,_,_,_,x4,y4,rfl,fun _=>(jE (c:=cR) (y:=⟨none,0,0⟩) hm4 ok3.toOkP (by decide) (nP (small 11 (by decide) (by decide)) (by decide) (by decide) z z (small 9 (by decide) (by decide)) rfl) hg4).mono ?_⟩
 rintro r V5 ⟨V05,hS5,hm5,x5,y5,rfl,hx5,hy5⟩
 rw[do4]at hm5
 rw[HX]at*
 have hg5:=hg4.mono hS5.base
 have hVV:V.Le V5:=by
  have h1:V.Le V05:=hS1.base.trans (hS2.base.trans (hS3.base.trans (hSb'.base.trans (hS4.base.trans hS5.base))))
  exact h1.trans hS5.sub
 refine⟨_,_,_,_,_,x5,y5,rfl,fun _=> ?_⟩
 refine ai (fun q V6=>q.1=true∧V.Le V6) (aa (fun _=>⟨ba [0,0,120,121],qJ (hx5.mono hS5.sub),aa (fun _=> ?_) (fun h=>absurd h (by decide))⟩) (fun h=>absurd h (by decide))) ?_
 ·refine(nO (c:=cS) (y:=⟨none,0,0⟩) hm5 ok3.toOkP (nP (small 14 (by decide) (by decide)) (by decide) (by decide) z z z rfl) hg5).mono ?_
  rintro r V6 ⟨rfl,V06,hS6⟩
  have hm6:=hm5.stp hS6 id id
  rw[Ng]
  refine⟨_,rfl,aa (fun _=> ?_) (fun h=>absurd h (by decide))⟩
  refine(jE (c:=cX) (y:=⟨none,0,0⟩) hm6 ok3.toOkP (by decide) (nP (small 99 (by decide) (by decide)) (by decide) (by decide) z z z rfl) (hg5.mono hS6.base)).mono ?_
  rintro r V7 ⟨V07,hS7,hm7,x7,y7,rfl,_,_⟩
  refine⟨_,_,_,_,_,x7,y7,rfl, ?_, ?_⟩
  ·rw[Nh];rfl
  ·have h1:V.Le V07:=hS1.base.trans (hS2.base.trans (hS3.base.trans (hSb'.base.trans (hS4.base.trans (hS5.base.trans (hS6.base.trans hS7.base))))))
   exact h1.trans hS7.sub
 ·rintro⟨q,⟨⟩⟩ V6 ⟨h1,hV⟩
  have h1:q=true:=h1
  subst h1
  exact⟨rfl,hV⟩
theorem u7 (m:bQ):(eC m).seq=m.seq:=by simp only [eC]
theorem u9 {V:View} {d:Int} (h:d<1∨60<d):af Tryz.prog 13 ⟨[.int .i64 d]⟩ V fun r V' =>r= .pointer none∧V' =V:=by
 refine Gi ?_
 unfold Bn
 refine aa (fun _=>⟨rfl,rfl⟩) (fun hb=>absurd hb ?_)
 by_cases h1:d<1
 ·rw[decide_eq_true h1];simp
 ·rw[decide_eq_false h1,decide_eq_true (show 60<d by omega)];simp
theorem rK {V V0:View} (hle:V0.Le V) (hg:Glo V0) {Q:Bool→View→Prop} (hQ:∀V',V0.Le V' →Q true V'):af Tryz.prog 12 ⟨[]⟩ V fun r V' =>∃x:Bool,r= .bool x∧Q x V' :=
 (yW (hg.mono hle)).mono fun _ V' ⟨h1,h2⟩=>⟨true,h1,hQ V' (hle.trans h2)⟩
structure xp (V0 V:View) (p mb q:Nat) (m:bQ):Prop where
 mod:ov V0 V p mb m
 ref:pE V0 V q m
 pq:p≠q
 mq:mb≠q
theorem xp.stp {B:Nat→Prop} {V0 V V0' V' :View} {p mb q:Nat} {m:bQ} (h:xp V0 V p mb q m) (k:Mv B V0 V V0' V') (h1:¬B p) (h2:¬B mb) (h3:¬B q):xp V0' V' p mb q m:=⟨h.mod.stp k h1 h2,h.ref.stp k h3,h.pq,h.mq⟩
theorem NoB.no (i:Nat):¬NoB i:=id
theorem Mv.nob {V0 V V0' V' :View} (h:Mv NoB V0 V V0' V'):V.Le V' :=h.le fun i hi=>hi.elim
theorem va {V:View} {data nN:Int} {y:Sl} {l:List Cal} (h:SlR V y l) (hg:Glo V):af Tryz.prog 7 ⟨[.int .i64 data,.slice y.a y.n y.c,.int .i64 nN]⟩ V fun r V' =>r= .bool true∧V.Le V' :=by
 refine Nl ?_
 unfold LD
 refine(yV h).mono ?_
 rintro r V0 ⟨x,rfl,hx0,hx151,hx,rfl⟩
 refine⟨x,rfl,aa (fun _=>rK (View.Le.refl _) hg fun V' h=>⟨rfl,h⟩) (fun hb=> ?_)⟩
 obtain⟨hl150,_⟩:=hx (by have:=of_decide_eq_false hb;omega)
 have hyn:=h.n
 by_cases hd:data<1∨60<data
 ·refine(u9 hd).mono ?_
  rintro r V1 ⟨rfl,rfl⟩
  refine⟨none,rfl,aa (fun hc=>absurd hc ?_) (fun _=>aa (fun _=>rK (View.Le.refl _) hg fun V' h=>⟨rfl,h⟩) (fun h=>by cases h))⟩
  by_cases h1:1≤data
  ·rw[decide_eq_true h1,decide_eq_false (show ¬data≤60 by omega)];simp
  ·rw[decide_eq_false h1];simp
 have hd1:1≤data:=by omega
 have hd2:data≤60:=by omega
 refine(tD (View.Le.refl V0) hd1 hd2).mono ?_
 rintro r V1 ⟨V01,p,mb,rfl,hS1,hp0,hmb0,hm1⟩
 refine⟨_,rfl,aa (fun hc=>absurd hc ?_) (fun _=>aa (fun h=>by cases h) (fun _=> ?_))⟩
 ·rw[decide_eq_true hd1,decide_eq_true hd2];simp
 refine(AM hm1.le (d:=data)).mono ?_
 rintro r V2 ⟨V02,q,rfl,hS2,hq0,hr2⟩
 have hm2:=hm1.stp hS2 id id
 have hpq:p≠q:=by
  rintro rfl
  obtain⟨s,hs,es,cl,hc⟩:=hm1.ex
  rw[hc.box]at hq0;cases hq0
 have hmq:mb≠q:=by
  rintro rfl
  obtain⟨s,hs,es,cl,hc⟩:=hm1.ex
  rw[hc.map]at hq0;cases hq0
 refine⟨_,rfl, ?_⟩
 refine bh (k:= .int .i64) (fun(jj:Int) V3=>∃(j:Nat) (V03:View) (m:bQ),jj=j∧j≤l.length∧V0.Le V03∧xp V03 V3 p mb q m∧OkH m∧m.seq≤80*j) (fun(jj:Int) _=>l.length-jj.toNat)
  ⟨0,V02,r6 data,rfl,by omega,hS1.base.trans hS2.base,⟨hm2,hr2,hpq,hmq⟩,OkH.new hd1 hd2,Int.le_refl 0⟩ ?_
 rintro(jj:Int) V3 ⟨j,V03,m,rfl,hj,hV3,hB3,hO3,hs3⟩
 refine aa (fun hlt=> ?_) (fun hge=> ?_)
 ·have hlt:j<l.length:=by have:=of_decide_eq_true hlt;omega
  obtain⟨ad,yc,ha,hcc,hC⟩:=h.M8 hlt
  refine⟨by omega,by omega,ad,ha,_,_,_,_,_,_,yc,aV (hV3.trans hB3.mod.le) hcc,fun _=> ?_⟩
  refine ai (fun _ V4=>∃(V04:View) (m:bQ),V0.Le V04∧xp V04 V4 p mb q m∧OkH m∧m.seq≤80*j) (aa (fun _=> ?_) (fun _=>⟨V03,m,hV3,hB3,hO3,hs3⟩)) ?_
  ·refine(r7 hB3.mod hO3.toOkP).mono ?_
   rintro r V4 ⟨rfl,V04,hS4,hm4⟩
   have hr4:=hB3.ref.stp hS4 (fun h=>h.elim (fun e=>hB3.pq e.symm) (fun e=>hB3.mq e.symm))
   refine⟨rfl,(r9 hr4 hO3).mono ?_⟩
   rintro r V5 ⟨rfl,V05,hS5,hr5⟩
   have hm5:=hm4.stp hS5 hB3.pq hB3.mq
   exact⟨rfl,V05,eC m,hV3.trans (hS4.base.trans hS5.base),⟨hm5,hr5,hB3.pq,hB3.mq⟩,hO3.nN,by rw[u7];exact hs3⟩
  rintro⟨⟩ V4 ⟨V04,m,hV4,hB4,hO4,hs4⟩
  have hC4:=hC.mono hV4
  have hg4:=hg.mono hV4
  refine(nO hB4.mod hO4.toOkP hC4 hg4).mono ?_
  rintro r V5 ⟨rfl,V05,hS5⟩
  have hB5:=hB4.stp hS5 id id id
  have hsq:m.seq+80≤1099511627776:=by omega
  refine⟨_,rfl,(jE hB5.mod hO4.toOkP hsq (hC4.mono hS5.base) (hg4.mono hS5.base)).mono ?_⟩
  rintro r V6 ⟨V06,hS6,hm6,xa,xb,rfl,hxa,hxb⟩
  have hr6:=hB5.ref.stp hS6 (fun h=>h.elim (fun e=>hB3.pq e.symm) (fun e=>hB3.mq e.symm))
  refine⟨_,_,_,_,_,xa,xb,rfl,fun _=>(DO hr6 hO4 hsq (hC4.mono (hS5.base.trans hS6.base))).mono ?_⟩
  rintro r V7 ⟨V07,hS7,hr7,_,⟨xc,xd,rfl,hxc,hxd⟩,rfl⟩
  have hm7:=hm6.stp hS7 hB3.pq hB3.mq
  have hO7:OkH (doP m ((l.getD j default))):=hO4.step hsq
  have hs7:=(hO4.toOkP.step (c:=l.getD j default) hsq).2.1
  have hB7:xp V07 V7 p mb q (doP m (l.getD j default)):=⟨hm7,hr7,hB3.pq,hB3.mq⟩
  have hV07:V0.Le V07:=hV4.trans (hS5.base.trans (hS6.base.trans hS7.base))
  obtain⟨s8,hs8,bs8,B8,hc8⟩:=hr7.ex
  refine⟨_,_,_,_,_,xc,xd,_,rfl,fun _=>ai (fun z V8=>z.1=false∧∃V08,V0.Le V08∧xp V08 V8 p mb q (doP m (l.getD j default))) ⟨trivial,V7,View.Le.refl _,(yU (hxa.mono (hS7.base.trans hS7.sub)) (hxb.mono (hS7.base.trans hS7.sub)) (hxc.mono hS7.sub) (hxd.mono hS7.sub)).mono ?_⟩ ?_⟩
  ·rintro r V8 ⟨rfl,rfl⟩
   refine⟨true,rfl,View.Le.refl _,V8,View.Le.refl _,View.Le.refl _,aa (fun h=>by cases h) (fun _=>aa (fun h=>absurd h (by simp)) (fun _=> ?_))⟩
   refine⟨_,rfl,s8,bx1 hc8.box 1 rfl,(yD hm7 hO7.may).mono ?_⟩
   rintro r V9 ⟨V09,xt,rfl,hxt,hS9⟩
   refine⟨xt,rfl,hS9.nob,V9,hS9.nob,View.Le.refl _,(kJ (hxt.mono hS9.sub) (hc8.tre.mono (hS9.base.trans hS9.sub))).mono ?_⟩
   rintro r V10 ⟨rfl,rfl⟩
   have hB10:=hB7.stp hS9 id id id
   refine⟨_,rfl,View.Le.refl _,V10,View.Le.refl _,View.Le.refl _,aa (fun h=>absurd h (by simp)) (fun _=>⟨_,rfl,hs8,bx (hS9.nob.see _ _ hc8.box) 2 rfl, ?_⟩)⟩
   refine(wW hB10.mod hO7.bW).mono ?_
   rintro r V11 ⟨V011,xh,rfl,hxh,hS11⟩
   refine⟨xh,rfl,hS11.nob,(DN (hxh.mono hS11.sub) (hc8.bW.mono (hS9.base.trans (hS11.base.trans hS11.sub)))).mono ?_⟩
   rintro r V12 ⟨rfl,rfl⟩
   refine⟨_,rfl, ?_,V011,hV07.trans (hS9.base.trans hS11.base),hB10.stp hS11 id id id⟩
   simp
  rintro⟨z,⟨⟩⟩ V8 ⟨hz,V08,hV08,hB8⟩
  have hz:z=false:=hz
  subst hz
  dsimp only [unc]
  refine aa (fun h=>by cases h) (fun _=>⟨au (by omega) (by omega),⟨j+1,V08,_,by omega,by omega,hV08,hB8,hO7,by push_cast;omega⟩,by omega⟩)
 ·refine bh (k:= .int .i64) (fun(jj:Int) V4=>∃(j:Nat) (V04:View),jj=j∧j≤12∧V0.Le V04∧xp V04 V4 p mb q m) (fun(jj:Int) _=>12-jj.toNat) ⟨0,V03,rfl,by omega,hV3,hB3⟩ ?_
  rintro(jj:Int) V4 ⟨i,V04,rfl,hi,hV4,hB4⟩
  refine aa (fun hlt=> ?_) (fun _=>rK (hV4.trans hB4.mod.le) hg fun V' h=>⟨rfl,h⟩)
  have hlt:i<12:=by have:=of_decide_eq_true hlt;omega
  refine⟨trivial,V4,View.Le.refl _,(wX hB4.mod hO3.toOkP i).mono ?_⟩
  rintro r V5 ⟨x5,rfl,hx5,hV5⟩
  have hS5:Mv NoB V04 V4 V04 V5:=Mv.grow hB4.mod.le hV5
  have hB5:=hB4.stp hS5 id id id
  refine⟨x5,rfl,hV5,V5,hV5,View.Le.refl _,ba (oz m i),qJ hx5,(u6 hB5.ref hO3 i).mono ?_⟩
  rintro r V6 ⟨x6,rfl,hx6,hV6⟩
  have hS6:Mv NoB V04 V5 V04 V6:=Mv.grow hB5.mod.le hV6
  have hB6:=hB5.stp hS6 id id id
  refine⟨x6,rfl,hV6,V6,hV6,View.Le.refl _,ba (oz m i),qJ hx6,aa (fun h=>absurd h (by simp)) (fun _=>⟨au (by omega) (by omega),⟨i+1,V04,by omega,by omega,hV4,hB6⟩,by omega⟩)⟩
end Go.Proofs.YtoogangnldppaaaGreatDoor
/- How rows and trees come in. -/
namespace Go.Proofs.YtoogangnldppaaaGreatDoor
open Go Go.RowKit Go.ChangeShapes Go.WideShapes
section
variable {H:Type} {enc:TypeId×Value→H} {P:Program} {w:World} {base b0:Nat} {sp:Nat→Bool} {held:Bool} {r:Go.Reach} {v:Value} {d:DataW H} {ps:List MemPlace}
theorem DP {α:Type} [Rep α] {t e:TypeId} (ht:P.underlying t=some (.slice e)) (hT:fF P (List α) t) (hv:Value.okWide P w r b0 t v) (hd:DataW.Trod enc P w base sp held t v d ps):
  ∃(s:Sl) (l:List α),v= .slice s.a s.n s.c∧SlR (View.all w) s l:=by
 obtain⟨a,len,cap,rfl⟩:=okWide_slice ht hv
 obtain⟨fuel,hf⟩:=hd
 obtain⟨l,s,he,hs⟩:=hT.of hf
 simp [Value.cells]at he
 exact⟨s,l,by rw[he.1,he.2.1,he.2.2],hs⟩
end
theorem xq {P:Program} {t ti ts tb:TypeId} (h0:fW P t 0=some (0,ti)) (h1:fW P t 1=some (1,ts)) (h2:fW P t 2=some (2,ts)) (h3:fW P t 3=some (3,ti)) (h4:fW P t 4=some (4,ti)) (h5:fW P t 5=some (5,ti)) (h6:fW P t 6=some (6,tb))
  (hc:P.cellsOf t=7) (hci:P.cellsOf ti=1) (hcs:P.cellsOf ts=1) (hcb:P.cellsOf tb=1) (hi:P.underlying ti=some (.int .i64)) (hs:P.underlying ts=some .string) (hb:fF P (List UInt8) tb):fF P Cal t:=⟨fun {H enc w base sp held fuel cs x} h=>by
 obtain⟨hl,n0,y0,g0⟩:=e9 h0 h
 obtain⟨_,n1,y1,g1⟩:=e9 h1 h
 obtain⟨_,n2,y2,g2⟩:=e9 h2 h
 obtain⟨_,n3,y3,g3⟩:=e9 h3 h
 obtain⟨_,n4,y4,g4⟩:=e9 h4 h
 obtain⟨_,n5,y5,g5⟩:=e9 h5 h
 obtain⟨_,n6,y6,g6⟩:=e9 h6 h
 rw[hc]at hl
 match cs,hl with
 | [a,b,c,d,e,f,g],_=>
   rw[hci]at g0 g3 g4 g5
   rw[hcs]at g1 g2
   rw[hcb]at g6
   obtain⟨m0,e0,w0⟩:=(iG hi).of g0
   obtain⟨m1,e1,w1⟩:=(kz hs).of g1
   obtain⟨m2,e2,w2⟩:=(kz hs).of g2
   obtain⟨m3,e3,w3⟩:=(iG hi).of g3
   obtain⟨m4,e4,w4⟩:=(iG hi).of g4
   obtain⟨m5,e5,w5⟩:=(iG hi).of g5
   obtain⟨l6,s6,e6,w6⟩:=hb.of g6
   simp at e0 e1 e2 e3 e4 e5 e6
   exact⟨⟨m0,m1,m2,m3,m4,m5,l6⟩,s6,by rw[e0,e1,e2,e3,e4,e5,e6];rfl,⟨w0,w1,w2,w3,w4,w5,w6⟩⟩⟩
theorem Ni:fF Tryz.prog Cal 35:=xq (ti:=3) (ts:=9) (tb:=23) (by kernel_rfl) (by kernel_rfl) (by kernel_rfl) (by kernel_rfl) (by kernel_rfl) (by kernel_rfl) (by kernel_rfl) (by kernel_rfl) (by kernel_rfl) (by kernel_rfl) (by kernel_rfl) Tryz.underlying3 Tryz.underlying9 D3
theorem Lq:fF Tryz.prog (List Cal) 22:=lK (e:=35) Tryz.underlying22 (by kernel_rfl) Ni
end Go.Proofs.YtoogangnldppaaaGreatDoor
