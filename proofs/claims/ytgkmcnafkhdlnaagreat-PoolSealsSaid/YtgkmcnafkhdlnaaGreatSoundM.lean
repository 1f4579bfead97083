/- The executor of YtgkmcnafkhdlnaaGreatCore is right: maps. -/
import Derived.Test.YtgkmcnafkhdlnaaGreatSound4
set_option linter.unusedSimpArgs false
set_option linter.unusedVariables false
namespace Go.Proofs.YtgkmcnafkhdlnaaGreat
open Go Go.RowKit
section
variable {P : Program} {wr : Bool} {VS : Option View} {bx : List Box} {ρ : Operand → Option RV} {η : Operand → Value} {V0 V : View} {w0 w : World} {C : Option RV → List Box → View → Prop} {o : Oper}
def World.withO (w : World) (r : Nat) (o : Obj) : World := { w with heap := w.heap.setIfInBounds r o }
/-- A block that is seen is another one. -/
theorem Inv.setO [DrK] (hi : Inv V0 w0 V w bx) {r : Nat} {o : Obj} (o' : Obj) (hs : V.see r = some o) : Inv V0 w0 (V.put r o') (World.withO w r o') bx := by
  have hb := hi.isIn.see _ _ hs
  have hbs : r < V.size := V.lt _ _ hs
  have hlt : r < w.heap.size := lt_of_some hb
  have hsz : (World.withO w r o').heap.size = w.heap.size := by simp [World.withO]
  have hne : ∀ j, j ≠ r → (World.withO w r o').heap[j]? = w.heap[j]? := fun j hj => by simp [World.withO, Array.getElem?_setIfInBounds, Ne.symm hj]
  have heq : (World.withO w r o').heap[r]? = some o' := by simp [World.withO, Array.getElem?_setIfInBounds, hlt]
  refine ⟨⟨?_, fun j x hj => ?_, hi.isIn.out⟩, ⟨by rw [hsz]; exact hi.fr.size, fun j hj hn => ?_, hi.fr.drawn⟩, ⟨fun i x hx => by rw [hsz]; exact hi.boxes.lo i x hx, fun i x cs hx hc => ?_, hi.boxes.ne⟩⟩
  · rw [hsz]; have := hi.isIn.size; simp only [View.put]; omega
  · by_cases ej : j = r
    · subst ej
      simp only [View.put, if_true] at hj
      cases hj
      exact heq
    · simp only [View.put, if_neg ej] at hj
      rw [hne j ej]; exact hi.isIn.see j x hj
  · have h6 := hi.fr.hid j hj hn
    have hn' : j ≠ r := fun ej => by rw [ej, hs] at h6; cases h6.1
    exact ⟨by simp only [View.put, if_neg hn']; exact h6.1, by rw [hne j hn']; exact h6.2⟩
  · have h6 := hi.boxes.shut i x cs hx hc
    have hn' : x.blk ≠ r := fun ej => by rw [ej, hs] at h6; cases h6.1
    exact ⟨by simp only [View.put, if_neg hn']; exact h6.1, by rw [hne _ hn']; exact h6.2⟩
theorem Inv.drew [DrK] (hi : Inv V0 w0 V w bx) : Inv V0 w0 V w.drew bx := ⟨⟨hi.isIn.size, hi.isIn.see, hi.isIn.out⟩, ⟨hi.fr.size, hi.fr.hid, fun x => Nat.le_trans (hi.fr.drawn x) (Nat.le_succ _)⟩, ⟨hi.boxes.lo, hi.boxes.shut, hi.boxes.ne⟩⟩
theorem sameBits_of_keyEq {x y : Value} (h : keyEq x y = some true) : Instr.sameBits 10000 y x = true := by
  have one : ∀ {a b : Value} (n : Nat), keyEq1 a b = some true → Instr.sameBits n b a = true := by
    intro a b n h
    unfold keyEq1 at h
    split at h
    · split at h
      · rename_i hk
        cases of_decide_eq_true hk
        simp only [Option.some.injEq, decide_eq_true_eq] at h
        subst h
        cases n <;> simp [Instr.sameBits]
      · cases h
    · simp only [Option.some.injEq, decide_eq_true_eq] at h
      subst h
      cases n <;> simp [Instr.sameBits, beq_toListBytes]
    · simp only [Option.some.injEq, beq_iff_eq] at h
      subst h
      cases n <;> simp [Instr.sameBits]
    · cases h
  unfold keyEq at h
  split at h
  · rename_i as bs
    have key : ∀ (as bs : List Value), keyEqL as bs = some true → as.length = bs.length ∧ ((bs.zip as).all fun (x, y) => Instr.sameBits 9999 x y) = true := by
      intro as
      induction as with
      | nil => intro bs h; cases bs <;> simp [keyEqL] at h ⊢
      | cons a as ih =>
        intro bs h
        cases bs with
        | nil => simp [keyEqL] at h
        | cons b bs =>
          unfold keyEqL at h
          split at h
          · rename_i g g' hg hg'
            simp only [Option.some.injEq, Bool.and_eq_true] at h
            obtain ⟨rfl, rfl⟩ := h
            have := ih bs hg'
            simp [this.1, one 9999 hg]
            simpa using this.2
          · cases h
    have := key as bs h
    show (bs.toArray.size == as.toArray.size && (bs.zip as).all fun (x, y) => Instr.sameBits 9999 x y) = true
    simp only [List.size_toArray, this.1, beq_self_eq_true, Bool.true_and]
    exact this.2
  · exact one _ h
theorem mfind_get {k : Value} : ∀ (es : List MapEntry) (i : Nat) (j : Nat) (v : Value), mfind k es i = some (some (j, v)) → i ≤ j ∧ ∃ e, es[j - i]? = some e ∧ keyEq k e.key = some true ∧ e.val = v
  | [], _, _, _, h => by simp [mfind] at h
  | e :: es, i, j, v, h => by
    unfold mfind at h
    split at h
    · rename_i hk; cases h; exact ⟨Nat.le_refl _, e, by simp, hk, rfl⟩
    · obtain ⟨h1, e', h2, h3⟩ := mfind_get es (i + 1) j v h
      refine ⟨by omega, e', ?_, h3⟩
      rw [show j - i = (j - (i + 1)) + 1 by omega]
      simpa using h2
    · cases h
theorem keyStays [DrK] {k : Value} {es : Array MapEntry} {j : Nat} {v : Value} (h : mfind k es.toList 0 = some (some (j, v))) (w : World) : (Instr.keyThatStays (((es[j]?).map (·.key)).getD k) k).run P w = .ok k w := by
  obtain ⟨_, e, he, hk, _⟩ := mfind_get _ _ _ _ h
  rw [Nat.sub_zero, Array.getElem?_toList] at he
  unfold Instr.keyThatStays
  rw [he]
  simp [sameBits_of_keyEq hk]
theorem run_setMap {r : Nat} {es : Array MapEntry} {cl : Nat} (o : Obj) (hb : w.heap[r]? = some (.map es cl)) : (Go.setObj r o).run P w = .ok () (World.withO w r o) := by simp [Go.setObj, Sem.run, hb, World.withO]
theorem run_getMap {r : Nat} {es : Array MapEntry} {cl : Nat} (hb : w.heap[r]? = some (.map es cl)) : (getObj r).run P w = .ok (.map es cl) w := by simp [getObj, Sem.run, hb]
theorem Leaves.setO [DrK] (hi : Inv V0 w0 V w bx) {r : Nat} {o o' : Obj} (hs : V.see r = some o) {v : Value} {rv : Option RV} (hr : ∀ x, rv = some x → x.val bx = v) (hc : C rv bx (V.put r o')) : Leaves V0 w0 bx C v (World.withO w r o') :=
  ⟨rv, bx, _, hr, hi.setO o' hs, BxRel.refl _, hc⟩
theorem lv_mapUpdate [DrK] {t : TypeId} {x i y : Operand} (ho : o.op = .mapUpdate t x i y) (hρ : ∀ x r, ρ x = some r → η x = r.val bx) (hi : Inv V0 w0 V w bx) (h : opX P wr VS bx (.mapUpdate t x i y) o.type ρ V C) : OpOk P V0 w0 η o bx w C := by
  simp only [opX] at h
  split at h
  · rename_i kt et m k v hu hx hk hy
    split at h
    · rename_i hf
      obtain ⟨heq, r, es, cl, f, rfl, hs, hfind, hC⟩ := h
      obtain ⟨ry, hry, hv⟩ := Option.bind_eq_some_iff.1 hy
      have hη : η y = v := by rw [hρ y _ hry, toV_val hv]
      have hb := hi.isIn.see _ _ hs
      have h1 := checkKey_run hf false 9998 w
      have h2 := findKey_run heq hf hfind w
      refine .skip ?_ (Leaves.setO hi hs (fun _ e => by cases e) hC)
      cases f with
      | none =>
        simp [execOp, ho, hρ x _ hx, hρ i _ hk, RV.val, hη, Instr.mapUpdate, run_underlying hu, run_getMap hb, h1, h2, run_setMap _ hb, mput]
      | some p =>
        have h3 := keyStays (P := P) hfind w
        simp [execOp, ho, hρ x _ hx, hρ i _ hk, RV.val, hη, Instr.mapUpdate, run_underlying hu, run_getMap hb, h1, h2, h3, run_setMap _ hb, mput]
    · exact h.elim
  · exact h.elim
theorem lv_mapEntry [DrK] {t : TypeId} {x i : Operand} (ho : o.op = .mapEntry t x i) (hρ : ∀ x r, ρ x = some r → η x = r.val bx) (hi : Inv V0 w0 V w bx) (h : opX P wr VS bx (.mapEntry t x i) o.type ρ V C) : OpOk P V0 w0 η o bx w C := by
  simp only [opX] at h
  split at h
  · rename_i kt et m k hu hx hk
    split at h
    · rename_i kd z hf hkd hz
      obtain ⟨heq, r, es, cl, f, rfl, hs, hfind, hC⟩ := h
      obtain ⟨v, hv, hC⟩ := exV_some _ hC
      have hb := hi.isIn.see _ _ hs
      have h1 := checkKey_run hf false 9998 w
      have h2 := findKey_run heq hf hfind w
      refine .value (v := .tuple ⟨[v, .int .i64 (mborn es cl f)]⟩) ?_ (Leaves.setO hi hs (fun _ e => by cases e; rfl) hC)
      cases f with
      | none =>
        simp only [found] at hv
        subst hv
        simp [execOp, ho, hρ x _ hx, hρ i _ hk, RV.val, Instr.mapEntry, run_underlying hu, run_getMap hb, h1, h2, run_setMap _ hb, mput, zeroX_run hz w, mborn, goInt]
      | some p =>
        simp only [found] at hv
        subst hv
        have h3 := keyStays (P := P) hfind w
        obtain ⟨_, e, he, hke, hve⟩ := mfind_get _ _ _ _ hfind
        rw [Nat.sub_zero, Array.getElem?_toList] at he
        have hm : (es.modify p.1 fun e => { e with key := k }) = es.modify p.1 fun e => { e with key := k, val := p.2 } := by
          apply Array.ext_getElem?
          intro j
          simp only [Array.getElem?_modify]
          split
          · rename_i hj
            subst hj
            rw [he]
            simp [hve]
          · rfl
        simp [execOp, ho, hρ x _ hx, hρ i _ hk, RV.val, Instr.mapEntry, run_underlying hu, run_getMap hb, h1, h2, h3, run_setMap _ hb, mput, mborn, goInt, hm]
        simp [he]
    · exact h.elim
  · exact h.elim
theorem lv_entryStore [DrK] {t : TypeId} {x s y : Operand} (ho : o.op = .entryStore t x s y) (hρ : ∀ x r, ρ x = some r → η x = r.val bx) (hi : Inv V0 w0 V w bx) (h : opX P wr VS bx (.entryStore t x s y) o.type ρ V C) : OpOk P V0 w0 η o bx w C := by
  simp only [opX] at h
  split at h
  · rename_i m k b v hx hk hy
    obtain ⟨r, es, cl, i, rfl, hs, hfind, hC⟩ := h
    obtain ⟨ry, hry, hv⟩ := Option.bind_eq_some_iff.1 hy
    have hη : η y = v := by rw [hρ y _ hry, toV_val hv]
    have hb := hi.isIn.see _ _ hs
    refine .skip ?_ (Leaves.setO hi hs (fun _ e => by cases e) hC)
    simp [execOp, ho, hρ x _ hx, hρ s _ hk, RV.val, hη, Instr.entryStore, run_getMap hb, asInt, asIntOf, hfind, run_setMap _ hb]
  · exact h.elim
theorem lv_range [DrK] {t : TypeId} {x : Operand} (ho : o.op = .range t x) (hρ : ∀ x r, ρ x = some r → η x = r.val bx) (hi : Inv V0 w0 V w bx) (h : opX P wr VS bx (.range t x) o.type ρ V C) : OpOk P V0 w0 η o bx w C := by
  simp only [opX] at h
  split at h
  · rename_i kt et m hu hx
    cases m with
    | none =>
      refine .value (v := .pointer (some ⟨w.heap.size, 0, none⟩)) (w' := more w (.mapIter none 0 #[] 0)) ?_ (Leaves.newB hi (h _ hi.isIn.size))
      simp [execOp, ho, hρ x _ hx, RV.val, Instr.range, run_underlying hu, more]
    | some b =>
      obtain ⟨es, cl, hs, hC⟩ := h
      have hb := hi.isIn.see _ _ hs
      refine .value (v := .pointer (some ⟨w.heap.size, 0, none⟩)) (w' := more w (.mapIter (some b) cl #[] cl)) ?_ (Leaves.newB hi (hC _ hi.isIn.size))
      simp [execOp, ho, hρ x _ hx, RV.val, Instr.range, run_underlying hu, run_getMap hb, more]
  · exact h.elim
theorem mapD_run [DrK] {t kt et : TypeId} {ats : Array TypeId} {ty : TypeId} {m : Option Nat} {k : Value} {C : View → Prop} (et0 : ats[0]? = some t) (hu : P.underlying t = some (.map kt et)) (hf : keyFit P kt k = true) (ho : eqOk P kt) (hi : Inv V0 w0 V w bx) (h : mapD V m k C) :
    ∃ w' V', (Builtin.delete_ ats ty #[.map m, k]).run P w = .ok (.tuple #[]) w' ∧ Inv V0 w0 V' w' bx ∧ C V' := by
  cases m with
  | none =>
    have h1 := checkKey_run hf true 9998 w
    exact ⟨w, V, by simp [Builtin.delete_, et0, run_underlying hu, h1], hi, h⟩
  | some r =>
    obtain ⟨es, cl, f, hs, hfind, hC⟩ := h
    have hb := hi.isIn.see _ _ hs
    have h1 := checkKey_run hf es.isEmpty 9998 w
    have h2 := findKey_run ho hf hfind w
    refine ⟨_, _, ?_, hi.setO _ hs, hC⟩
    cases f with
    | none => simp [Builtin.delete_, et0, run_underlying hu, run_getMap hb, h1, h2, run_setMap _ hb]
    | some p => simp [Builtin.delete_, et0, run_underlying hu, run_getMap hb, h1, h2, run_setMap _ hb]
theorem choose_run (n : Nat) (hn : 0 < n) (w : World) : ∃ i w', i < n ∧ (choose (.mapNext n)).run P w = .ok i w' ∧ (w' = w ∨ w' = w.drew) := by
  by_cases h : n ≤ 1
  · exact ⟨0, w, hn, by simp [Question.forced, h], .inl rfl⟩
  · exact ⟨w.tape w.drawn (.mapNext n) % n, w.drew, Nat.mod_lt _ hn, by simp [Question.forced, h, Question.cut], .inr rfl⟩
theorem nextC_spec [DrK] {ty : TypeId} {C : Value → View → Prop} {k v : Value} {V' : View} (h : nextC P ty C k v V') : C (.tuple ⟨[.bool true, k, v]⟩) V' := by
  unfold nextC at h
  split at h
  · split at h
    · obtain ⟨k', h⟩ := exV_some _ h
      obtain ⟨v', h⟩ := exV_some _ h
      obtain ⟨rfl, rfl, h⟩ := h
      exact h
    · exact h
  · exact h
theorem lv_next [DrK] {it : Operand} (ho : o.op = .next it false) (hρ : ∀ x r, ρ x = some r → η x = r.val bx) (hi : Inv V0 w0 V w bx) (h : opX P wr VS bx (.next it false) o.type ρ V C) : OpOk P V0 w0 η o bx w C := by
  simp only [opX] at h
  split at h
  · rename_i r hx
    unfold nextX at h
    · · rcases h with ⟨s, x, l, hs, hE⟩ | ⟨mb, s, x, l, es, cl, hs, hm, hok, hC, hE⟩
        · have hb := hi.isIn.see _ _ hs
          refine .value (v := .tuple ⟨[.bool false]⟩) ?_ (Leaves.same hi hE)
          simp [execOp, ho, hρ it _ hx, RV.val, Instr.next, getObj, Sem.run, hb]
        · have hb := hi.isIn.see _ _ hs
          have hbm := hi.isIn.see _ _ hm
          have hg : (getObj r).run P w = .ok (.mapIter (some mb) s x l) w := by simp [getObj, Sem.run, hb]
          have hgm : (getObj mb).run P w = .ok (.map es cl) w := run_getMap hbm
          have hno : (!x.isEmpty && !es.isEmpty && es.all (fun e => decide (e.born ≥ l))) = false := by
            rcases hok with hok | hok
            · cases he : es.isEmpty with
              | true => simp
              | false =>
                have h0 : 0 < es.size := by
                  rcases Nat.eq_zero_or_pos es.size with h | h
                  · simp [Array.isEmpty, h] at he
                  · exact h
                have : es.all (fun e => decide (e.born ≥ l)) = false := by
                  rw [Bool.eq_false_iff]
                  intro hall
                  have h1 := Array.all_eq_true.1 hall 0 h0
                  have h2 := Array.all_eq_true.1 hok 0 h0
                  simp at h1 h2
                  omega
                simp [this]
            · subst hok; simp
          let left := es.filter fun e => !x.contains e.born
          let old := left.filter fun e => decide (e.born < s)
          let new := left.filter fun e => decide (e.born ≥ s)
          let cand : Array (Option MapEntry) := (if old.isEmpty then #[none] else #[]) ++ (old ++ new).map some
          have hpos : 0 < cand.size := by
            show 0 < ((if old.isEmpty then #[none] else #[]) ++ (old ++ new).map some).size
            cases he : old.isEmpty with
            | true => simp; omega
            | false =>
              have : 0 < old.size := by
                rcases Nat.eq_zero_or_pos old.size with h | h
                · simp [Array.isEmpty, h] at he
                · exact h
              simp; omega
          obtain ⟨i, w', hlt, hch, hw'⟩ := choose_run (P := P) cand.size hpos w
          have hget : cand[i]? = some cand[i] := Array.getElem?_eq_getElem hlt
          have hi' : Inv V0 w0 V w' bx := by
            rcases hw' with rfl | rfl
            · exact hi
            · exact hi.drew
          have hb' : w'.heap[r]? = some (.mapIter (some mb) s x l) := hi'.isIn.see _ _ hs
          have hrun : ∀ c, cand[i]? = some c → (execOp η o).run P w = (match c with
              | some e => .ok (.value (.tuple #[.bool true, e.key, e.val])) (World.withO w' r (.mapIter (some mb) s (x.push e.born) cl))
              | none => .ok (.value (.tuple #[.bool false])) w') := by
            intro c hc
            have h1 : (Go.setObj r (.mapIter (some mb) s (x.push (match c with | some e => e.born | none => 0)) cl)).run P w' = .ok () (World.withO w' r (.mapIter (some mb) s (x.push (match c with | some e => e.born | none => 0)) cl)) := by
              simp [Go.setObj, Sem.run, hb', World.withO]
            have hc2 : ((if (Array.filter (fun e => decide (e.born < s)) (Array.filter (fun e => !x.contains e.born) es)).isEmpty = true then #[none] else #[]) ++ Array.map some (Array.filter (fun e => decide (e.born < s)) (Array.filter (fun e => !x.contains e.born) es) ++ Array.filter (fun e => decide (e.born ≥ s)) (Array.filter (fun e => !x.contains e.born) es)))[i]? = some c := hc
            simp only [execOp, ho, hρ it _ hx, RV.val, Instr.next, Sem.run_bind, hg, Result.andThen_ok, hgm]
            rw [if_neg (by rw [hno]; simp)]
            simp only [Sem.run_bind, Sem.run_pure, Result.andThen_ok]
            have hch2 := hch
            simp only [cand, old, new, left] at hch2
            rw [hch2]
            simp only [Result.andThen_ok]
            rw [hc2]
            cases c with
            | none => simp
            | some e => simp only at h1; simp [h1]
          cases hc : cand[i] with
          | none =>
            rw [hc] at hget
            refine .value (hrun none hget) (Leaves.same hi' (hE fun e he hs' => ?_))
            have hnil : old.isEmpty = true := by
              cases ho' : old.isEmpty with
              | true => rfl
              | false =>
                have : none ∈ cand := Array.mem_of_getElem? hget
                simp [cand, ho'] at this
            cases hxe : x.contains e.born with
            | true => rfl
            | false =>
              have : e ∈ old := by
                simp only [old, left, Array.mem_filter]
                exact ⟨⟨he, by rw [hxe]; rfl⟩, by simpa using hs'⟩
              rw [Array.isEmpty_iff] at hnil
              rw [hnil] at this
              simp at this
          | some e =>
            rw [hc] at hget
            have hmem : e ∈ es ∧ x.contains e.born = false := by
              have hm2 : some e ∈ cand := Array.mem_of_getElem? hget
              have h3 : e ∈ old ∨ e ∈ new := by
                simp only [cand, Array.mem_append, Array.mem_map] at hm2
                rcases hm2 with h | ⟨e', h, he⟩
                · split at h <;> simp at h
                · cases he; exact h
              rcases h3 with h | h
              · simp only [old, left, Array.mem_filter] at h
                exact ⟨h.1.1, by simpa using h.1.2⟩
              · simp only [new, left, Array.mem_filter] at h
                exact ⟨h.1.1, by simpa using h.1.2⟩
            have h5 := hC e hmem.1 hmem.2
            have h5 := nextC_spec h5
            exact .value (hrun (some e) hget) ⟨_, bx, _, fun rv e' => by cases e'; rfl, hi'.setO _ hs, BxRel.refl _, h5⟩
  · exact h.elim
/-- The entry at which a walk stands. -/
theorem lv_entry [DrK] {ops : Array Oper} {it : Operand} (ho : o.op = .entry it) (hρ : ∀ x r, ρ x = some r → η x = r.val bx) (hi : Inv V0 w0 V w bx) (h : opE P wr ops VS bx o ρ V C) : OpOk P V0 w0 η o bx w C := by
  unfold opE at h
  rw [ho] at h
  simp only at h
  split at h
  · rename_i r hx
    obtain ⟨b, s, x, l, es, stamp, e, hs, hm, hst, hf, hC⟩ := h
    obtain ⟨k', hC⟩ := exV_some _ hC
    obtain ⟨v', hC⟩ := exV_some _ hC
    obtain ⟨hk', hv', hC⟩ := hC
    have hb := hi.isIn.see _ _ hs
    have hbm := hi.isIn.see _ _ hm
    have hg : (getObj r).run P w = .ok (.mapIter (some b) s x l) w := by simp [getObj, Sem.run, hb]
    have hgm : (getObj b).run P w = .ok (.map es l) w := run_getMap hbm
    refine .value (v := .tuple ⟨[k', v']⟩) ?_ (Leaves.same hi hC)
    simp [execOp, ho, hρ it _ hx, RV.val, Instr.entry, Sem.run_bind, hg, hgm, hst, hf, hk', hv']
  · exact h.elim
end
end Go.Proofs.YtgkmcnafkhdlnaaGreat
