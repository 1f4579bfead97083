/- Maps with numbers as keys: what is found behind a key, and behind what is put. No program in this text. -/
import Derived.Test.YtpalkdmngckcoaaData
namespace Go.Proofs.Ytpalkdmngckcoaa
open Go
def keyI (e : MapEntry) : Int := match e.key with
  | .int _ n => n
  | _ => 0
/-- All keys are numbers. -/
def IntK (es : List MapEntry) : Prop := ∀ e ∈ es, ∃ n, e.key = .int .i64 n
/-- What stands behind a key. -/
def vlk (k : Int) : List MapEntry → Option Value
  | [] => none
  | e :: es => if keyI e = k then some e.val else vlk k es
theorem mfind_int {k : Int} : ∀ {es : List MapEntry} (_ : IntK es) (i : Nat), ∃ f, mfind (.int .i64 k) es i = some f ∧
    ((f = none ∧ vlk k es = none) ∨ ∃ j v, f = some (i + j, v) ∧ vlk k es = some v ∧ j < es.length ∧ ∀ (u : MapEntry → MapEntry) (w : Value), (∀ e, keyI e = k → keyI (u e) = k ∧ (u e).val = w ∧ ∃ n, (u e).key = .int .i64 n) → IntK (es.modify j u) ∧ ∀ k', vlk k' (es.modify j u) = if k' = k then some w else vlk k' es)
  | [], _, i => ⟨none, rfl, .inl ⟨rfl, rfl⟩⟩
  | e :: es, h, i => by
    obtain ⟨n, hn⟩ := h e (by simp)
    have hk : keyI e = n := by unfold keyI; rw [hn]
    have h' : IntK es := fun e he => h e (by simp [he])
    have hq : keyEq (.int .i64 k) (.int .i64 n) = some (decide (k = n)) := rfl
    by_cases hkn : k = n
    · subst hkn
      refine ⟨some (i, e.val), ?_, .inr ⟨0, e.val, rfl, by unfold vlk; rw [if_pos hk], by simp, fun u w hu => ⟨?_, fun k' => ?_⟩⟩⟩
      · unfold mfind; rw [hn, hq, decide_eq_true rfl]
      · intro e' he'
        rw [List.modify_zero_cons] at he'
        rcases List.mem_cons.1 he' with h1 | h1
        · rw [h1]; exact (hu e hk).2.2
        · exact h' e' h1
      · rw [List.modify_zero_cons]
        unfold vlk
        rw [(hu e hk).1, (hu e hk).2.1, hk]
        by_cases e1 : k = k'
        · rw [if_pos e1, if_pos e1.symm]
        · rw [if_neg e1, if_neg (fun h => e1 h.symm), if_neg e1]
    · have hne : ¬ keyI e = k := fun e => hkn (by rw [← e, hk])
      obtain ⟨f, hf, hr⟩ := mfind_int (k := k) h' (i + 1)
      refine ⟨f, by unfold mfind; rw [hn, hq, decide_eq_false hkn]; exact hf, ?_⟩
      rcases hr with ⟨h1, h2⟩ | ⟨j, v, h1, h2, h3, h4⟩
      · exact .inl ⟨h1, by unfold vlk; rw [if_neg hne]; exact h2⟩
      · refine .inr ⟨j + 1, v, by rw [h1]; congr 2; omega, by unfold vlk; rw [if_neg hne]; exact h2, by simpa using h3, fun u w hu => ?_⟩
        obtain ⟨h5, h6⟩ := h4 u w hu
        rw [List.modify_succ_cons]
        refine ⟨fun e' he' => ?_, fun k' => ?_⟩
        · rcases List.mem_cons.1 he' with h7 | h7
          · rw [h7]; exact ⟨n, hn⟩
          · exact h5 e' h7
        · unfold vlk
          by_cases e1 : keyI e = k'
          · rw [if_pos e1, if_pos e1, if_neg (fun h => hne (by rw [e1, h]))]
          · rw [if_neg e1, if_neg e1]; exact h6 k'
theorem vlk_append (k : Int) : ∀ (es ds : List MapEntry), vlk k (es ++ ds) = (vlk k es).or (vlk k ds)
  | [], ds => by simp [vlk]
  | e :: es, ds => by
    show (if keyI e = k then some e.val else vlk k (es ++ ds)) = (if keyI e = k then some e.val else vlk k es).or (vlk k ds)
    split
    · rfl
    · exact vlk_append k es ds
/-- What is put is found; all else is as it was. -/
theorem mput_int {es : Array MapEntry} {cl : Nat} {k : Int} {v : Value} (h : IntK es.toList) :
    ∃ f, mfind (.int .i64 k) es.toList 0 = some f ∧ (∀ z, found z f = (vlk k es.toList).getD z) ∧ ∃ es' cl', mput es cl f (.int .i64 k) v = .map es' cl' ∧ IntK es'.toList ∧ ∀ k', vlk k' es'.toList = if k' = k then some v else vlk k' es.toList := by
  obtain ⟨f, hf, hr⟩ := mfind_int (k := k) h 0
  refine ⟨f, hf, ?_, ?_⟩
  · intro z
    rcases hr with ⟨rfl, h2⟩ | ⟨j, w, rfl, h2, _⟩
    · rw [h2]; rfl
    · rw [h2]; rfl
  · rcases hr with ⟨rfl, h2⟩ | ⟨j, w, rfl, h2, h3, h4⟩
    · refine ⟨_, _, rfl, ?_, fun k' => ?_⟩
      · intro e he
        rw [Array.toList_push] at he
        rcases List.mem_append.1 he with h5 | h5
        · exact h e h5
        · rw [List.mem_singleton.1 h5]; exact ⟨k, rfl⟩
      · rw [Array.toList_push, vlk_append]
        by_cases e1 : k' = k
        · rw [if_pos e1, e1, h2]; simp [vlk, keyI]
        · rw [if_neg e1]
          have e2 : ¬ k = k' := fun h => e1 h.symm
          have : vlk k' [{ key := .int .i64 k, val := v, born := cl }] = none := by simp [vlk, keyI, e2]
          rw [this]; simp
    · obtain ⟨h5, h6⟩ := h4 (fun e => { e with key := .int .i64 k, val := v }) v (fun e _ => ⟨rfl, rfl, k, rfl⟩)
      refine ⟨_, _, rfl, ?_, fun k' => ?_⟩
      · rw [Array.toList_modify, Nat.zero_add]; exact h5
      · rw [Array.toList_modify, Nat.zero_add]; exact h6 k'
end Go.Proofs.Ytpalkdmngckcoaa
