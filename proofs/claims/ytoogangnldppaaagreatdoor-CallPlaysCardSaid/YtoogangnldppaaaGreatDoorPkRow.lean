/-
 The statements about a model's calls and its first call that this text proves:whatever comes,each answers true and leaves its arguments as they were. Under no condition;the two tables of unicode/utf8 that the rows list are tied to the program's text by the cards.
-/
import Derived.Test.YtoogangnldppaaaGreatDoorPk1
import Derived.Test.YtoogangnldppaaaGreatDoorRows
import Derived.Test.YtoogangnldppaaaGreatDoorTie
import Derived.Test.YtoogangnldppaaaGreatDoorCards
import Derived.Test.YtoogangnldppaaaGreatDoorPk5
import Derived.ChangeMaps5
import Derived.Lay
import Derived.SevenTiedAt
namespace Go.Proofs.YtoogangnldppaaaGreatDoor
open Go Go.RowKit Go.ChangeShapes Go.WideShapes Go.ChangeAt Go.ChangeMaps
theorem Lr:Kids Tryz.prog (· <Tryz.prog.types.size):=kids_rows laidOut LC
theorem F8 {t e:TypeId} (ht:t<Tryz.prog.types.size) (h:Tryz.prog.underlying t=some (.slice e)):0<Tryz.prog.cellsOf e:=by
 have hall:((List.range Tryz.prog.types.size).all fun t=>match Tryz.prog.underlying t with
  | some (.slice e)=>decide (0<Tryz.prog.cellsOf e)
  | _=>true)=true:=by kernel_rfl
 have:=List.all_eq_true.1 hall t (List.mem_range.2 ht)
 rw[h]at this
 simpa using this
theorem vb {W:World} (h:W.ShapedOpen Tryz.prog):Glo (View.all W):=Tryz.Dc.s1_3 W h
noncomputable abbrev zF:List (String×DataW Unit):= [("unicode/utf8.acceptRanges",Rows.laid_unicode_utf8_acceptRanges),("unicode/utf8.first",Rows.laid_unicode_utf8_first)]
set_option maxRecDepth 100000 in
theorem oF (os:Os) (started:os.Started) (H:Type) (enc:TypeId×Value→H):
  ReturnsInHanded {} Tryz.checked os 7 .any (fun w args=>(Rows.callPlaysSpec.pre enc Tryz.prog Tryz.f7 [] false w args∧laidMetH Tryz.prog zF w)∧sizedMet enc Tryz.prog Tryz.f7 (OpenSpec.ofChange Rows.callPlaysSpec) false w args)
   (Rows.callPlaysSpec.post enc Tryz.prog Tryz.f7 false true false false):=by
 refine vG (C:=Tryz.checked) (X:=fun w _=>laidMetH Tryz.prog zF w) (fun _ _ _ hh h=>h.of_heap hh) own started (by kernel_rfl) Tryz.func7
  (ChangeSpec.witness_shaped (enc:=enc) (C:=Tryz.checked) (os:=os) (X:=fun w _=>laidMetH Tryz.prog zF w) false (World.laidAll Tryz.prog os zF) #[.int .i64 0,.slice none 0 0,.int .i64 0] 8 (World.laidAll_os _ _ _)
   (World.shaped_of_ZipB (by kernel_rfl) (by kernel_rfl)) (by kernel_rfl) (by kernel_rfl) (by kernel_rfl)
   (by rw[MakeChecks.laidMetH_plain _ _ _ (by kernel_rfl)];exact laidMet_laidAll _ (by kernel_rfl) (by kernel_rfl))) ?_
 intro W base args ds gs before hval0 hW hsh
 have hval:∀(j:Nat) t v,Tryz.f7.params[j]? =some t→args[j]? =some v→Value.okWide Tryz.prog W .any base t v:=hval0
 have hW' :=hW
 obtain⟨p,q,hA0,hV,rfl,_,_⟩:=hW
 have hA:DataW.TrodAll enc Tryz.prog W 0 (fun _=>true) true Tryz.f7.params.toList args.toList ds p:=hA0
 rw[Tryz.params7]at hA hval
 obtain⟨v0,v1,v2,d0,d1,d2,p0,p1,p2,rfl,rfl,rfl,h0,h1,h2⟩:=trodAll_three hA
 obtain⟨rfl,rfl⟩:=trodVars_none hV
 obtain⟨n0,rfl,rfl,rfl,w0⟩:=open_int Tryz.underlying3 (hval 0 _ v0 rfl rfl) h0
 obtain⟨s1,l1,rfl,k1⟩:=DP Tryz.underlying22 Lq (hval 1 _ v1 rfl rfl) h1
 obtain⟨n2,rfl,rfl,rfl,w2⟩:=open_int Tryz.underlying3 (hval 2 _ v2 rfl rfl) h2
 exact zU (tb:=4) Lr F8 rfl rfl Tryz.underlying4 (zV (by kernel_rfl)) hW' rfl (va k1 (vb hsh))
theorem pF:Rows.CallPlaysSaid:=
 OpenClaim.holds_of_wide 7 Tryz.f7 rfl rfl rfl rfl rfl rfl rfl ⟨rfl,rfl,rfl,rfl,rfl⟩ rfl rfl rfl rfl rfl (by kernel_rfl) Tryz.func7 (by kernel_rfl)
  (of_decide_eq_true (by kernel_rfl)) (by unfold Func.isWrapper;first | (rw[if_pos (by decide+kernel)];kernel_rfl) | (rw[if_neg (by decide+kernel)];exact⟨rfl,rfl⟩))
  (fun os started H enc _=>oF os started H enc)
theorem callPlays_card:Rows.CallPlaysCardSaid:=
 Claim7.holds_tied_plain_at .later [] [.data,.pinned] true Rows.callPlaysCard.stood.harness true pF (fun _ h=>by cases h) (by kernel_rfl) (fun _ h=>by cases h) callPlays_row_tie rfl ⟨rfl,rfl⟩ (by kernel_rfl) rfl
  (fun f fn hf hfn=>by
   obtain rfl:f=7:=Option.some.inj ((show Tryz.prog.funcNamed "potsherd/potsherdlaw22.CallPlays" =some 7 by kernel_rfl).symm.trans hf) |>.symm
   obtain rfl:fn=Tryz.f7:=(Option.some.inj (Tryz.func7.symm.trans hfn)).symm
   exact⟨by kernel_rfl,fun j t ht=>by
    have hm:t∈Tryz.f7.params.toList:=Array.mem_toList_iff.2 (Array.mem_of_getElem? ht)
    have hall:(Tryz.f7.params.toList.all fun u=> !Tryz.prog.wantsStandIn u)=true:=by kernel_rfl
    exact(show Tryz.prog.wantsStandIn t=false by simpa using List.all_eq_true.1 hall t hm)⟩)
  (by kernel_rfl)
#print axioms callPlays_card
end Go.Proofs.YtoogangnldppaaaGreatDoor
