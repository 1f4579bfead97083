/- From a call over views to a row; how arguments are read. -/
import Derived.Test.YtpalkdmngckcoaaChecked
import Derived.Test.YtpalkdmngckcoaaRep
import Derived.ChangeStays
import Derived.ChangeBook
import Derived.ProofKit
import Derived.HandedShaped
import Derived.RowKit
import Derived.ChangeShapes
import Derived.WideShapes
import Derived.Below
namespace Go.Proofs.Ytpalkdmngckcoaa
open Go Go.RowKit Go.ChangeShapes Go.WideShapes

theorem own : ownKnob Try.prog.godebug = none := by kernel_rfl
theorem laidOut : laidOutB Try.prog = true := by kernel_rfl
theorem rowed : mapsRowed Try.prog = true := by kernel_rfl

section
variable {H : Type} {enc : TypeId × Value → H} {P : Program}
/-- The world is as it was, but for what is new. -/
theorem below_of_le {W W' : World} {V' : View} (h : V'.In W') (hl : (View.all W).Le V') : Below W.heap.size W W' := by
  have ho : World.outer W' = World.outer W := h.out.trans hl.out
  unfold World.outer at ho
  simp only [Prod.mk.injEq] at ho
  refine ⟨ho.1, ho.2.1, ho.2.2, Nat.le_trans hl.size h.size, fun k hk => ?_⟩
  have h1 : W.heap[k]? = some W.heap[k] := Array.getElem?_eq_getElem hk
  rw [h1]
  exact h.see k _ (hl.see k _ h1)
theorem same_of_below {W W' : World} (hb : Below W.heap.size W W') : ∀ p : MemPlace, p.block < W.heap.size → W.sameAt W' p := by
  intro p hp
  cases p with
  | cell b off =>
    have := hb.block b hp
    show W'.cell? _ = W.cell? _
    unfold World.cell?
    simp only [this]
  | map b => exact hb.block b hp
theorem trodAll_stays {t0 : TypeId → Prop} (K : Kids P t0) (hsz : ∀ {t e : TypeId}, t0 t → P.underlying t = some (.slice e) → 0 < P.cellsOf e) {W W' : World} (hb : Below W.heap.size W W') :
    ∀ {ts : List TypeId} {vs : List Value} {ds : List (DataW H)} {ps : List MemPlace}, (∀ t ∈ ts, t0 t) → DataW.TrodAll enc P W 0 (fun _ => true) true ts vs ds ps →
      DataW.TrodAll enc P W' 0 (fun b => decide (b < W.heap.size)) true ts vs ds ps
  | [], [], [], _, _, h => h
  | t :: ts, v :: vs, d :: ds, ps, ht, ⟨p, q, ⟨fuel, h1⟩, h2, e⟩ => by
    refine ⟨p, q, ⟨fuel, ?_⟩, trodAll_stays K hsz hb (fun t h => ht t (by simp [h])) h2, e⟩
    have hlt := DataW.trod_lt fuel t v.cells.toList _ h1
    exact DataW.trod_stays K hsz (fun h => by cases h) (ht t (by simp)) h1 (fun p hp => same_of_below hb p (hlt p hp)) (fun p hp => by simpa using hlt p hp)
/-- A call that answers true and changes nothing is what the row asks. -/
theorem post_true {f : Func} {s : ChangeSpec} {apart fresh handsOn : Bool} {t0 : TypeId → Prop} (K : Kids P t0) (hsz : ∀ {t e : TypeId}, t0 t → P.underlying t = some (.slice e) → 0 < P.cellsOf e) {W : World} {args : Array Value} {ds gs : List (DataW H)} {before : List MemPlace} {tb : TypeId}
    (hv : s.vars = []) (hr : f.resultTypes = #[tb]) (hb : P.underlying tb = some .bool) (hts : ∀ t ∈ f.params.toList, t0 t)
    (hW : DataW.Whole enc P f.params.toList s.vars apart W args.toList ds gs before) (hs : s.fn H (ds ++ gs) = { results := [.lit (.bool true)], args := ds })
    {F : FuncId} (hc : CallV P F args (View.all W) fun r V' => r = .bool true ∧ (View.all W).Le V') :
    Calls P F args W fun e W' => ∃ v, e = .returned v ∧ s.post enc P f apart fresh handsOn false W args v W' := by
  refine (hc.2 W (View.all_in W)).mono ?_
  rintro e W' ⟨r, V', rfl, hin, _, rfl, hle⟩
  have hbl := below_of_le hin hle
  obtain ⟨p, q, hA, hV, rfl, hfz, hnd⟩ := hW
  have hq : gs = [] ∧ q = [] := by
    rw [hv] at hV
    cases gs with
    | nil => exact ⟨rfl, hV⟩
    | cons g r => exact absurd hV (by intro h; cases h)
  obtain ⟨rfl, rfl⟩ := hq
  refine ⟨_, rfl, ds, [], p ++ [], [], p, [], ⟨p, [], hA, hV, rfl, hfz, hnd⟩, ?_, ?_, ?_, hbl.frame _, fun h => by cases h⟩
  · rw [hs, hr]; exact trodAll_mk1 (shut_bool hb true)
  · rw [hs]; exact trodAll_stays K hsz hbl hts hA
  · rw [hs, hv]; rfl
theorem params_lt {f : Func} (h : (f.params.toList.all fun t => decide (t < P.types.size)) = true) : ∀ t ∈ f.params.toList, t < P.types.size := fun t ht => by
  simpa using List.all_eq_true.1 h t ht
/-- The wrap that keeps both: what the listed variables read as, and the world's shape. -/
theorem handed_both {a : Assume} {C : Checked} {os : Os} {f : FuncId} {fn : Func} {s : ChangeSpec} {conds : List PathCond} {apart fresh handsOn again : Bool} {X : World → Array Value → Prop}
    (_hX : ∀ (w w' : World) (args : Array Value), w.heap = w'.heap → X w args → X w' args)
    (own : ownKnob C.prog.godebug = none) (started : os.Started) (noInit : C.prog.inits.idxOf? f = none) (hfn : C.prog.funcs[f]? = some fn)
    (witness : ∃ (w : World) (tape : Tape) (i : Input), w.os = os ∧ (w.forCall tape i).Shaped C.prog ∧ i.vars = [] ∧ Input.okWide C.prog (w.forCall tape i) .any w.heap.size f i ∧
      ((s.pre enc C.prog fn conds apart (w.forCall tape i).memory i.args ∧ X (w.forCall tape i).memory i.args) ∧ sizedMet enc C.prog fn (OpenSpec.ofChange s) apart (w.forCall tape i).memory i.args) ∧ a.holds C.prog (lone (Frame.enter C.prog f i.args .normal) [] (w.forCall tape i)))
    (contract : ∀ (W : World) (base : Nat) (args : Array Value) (ds gs : List (DataW H)) (before : List MemPlace),
      (∀ (j : Nat) t v, fn.params[j]? = some t → args[j]? = some v → Value.okWide C.prog W .any base t v) →
      DataW.Whole enc C.prog fn.params.toList s.vars apart W args.toList ds gs before → W.ShapedOpen C.prog →
      Calls C.prog f args W fun e W' => ∃ v, e = .returned v ∧ s.post enc C.prog fn apart fresh handsOn again W args v W') :
    ReturnsInHanded a C os f .any (fun w args => (s.pre enc C.prog fn conds apart w args ∧ X w args) ∧ sizedMet enc C.prog fn (OpenSpec.ofChange s) apart w args) (s.post enc C.prog fn apart fresh handsOn again) := by
  refine returnsInHanded_of_calls own started noInit witness ?_
  intro w tape i _ hsh _ hok hpre hholds
  obtain ⟨_, _, _, fn', hfn', _, _, _, _, hval⟩ := hok
  have e : fn' = fn := Option.some.inj (hfn'.symm.trans hfn)
  subst e
  obtain ⟨⟨⟨ds, gs, before, hw, hc⟩, hx⟩, hz⟩ := hpre
  have hw' := DataW.Whole.of_heap (w' := w.forCall tape i) (by rfl) hw
  refine (contract (w.forCall tape i) w.heap.size i.args ds gs before hval hw' hsh).mono fun e W' ⟨v, he, hp⟩ => ?_
  subst he
  exact ChangeSpec.post_blind hp
end
end Go.Proofs.Ytpalkdmngckcoaa
