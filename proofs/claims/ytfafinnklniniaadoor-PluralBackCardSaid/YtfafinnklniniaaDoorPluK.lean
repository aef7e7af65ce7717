/-
  WHAT IS PROVED HERE: a printed rule is read as that rule; what is read well of a text is printed as that text; a place of an error lies within the text (plain Lean, no program in sight). No condition.
-/
import Derived.Test.YtfafinnklniniaaDoorPluY
import Derived.Test.YtfafinnklniniaaDoorPluW
namespace Go.Proofs.YtfafinnklniniaaDoor
open Go.RowKit

def toSpan (s : Int × Int) : Int × Option Int := (s.1, if s.1 < s.2 then some s.2 else none)
def toRel (x : Rl) : Raw := ⟨if x.mod = 0 then none else some x.mod, x.not, x.spans.map toSpan⟩
def toRule (l : List (List Rl)) : List (List Raw) := l.map (·.map toRel)
theorem span_txt (s : Int × Int) : (spanB s).data.toList = spanT (toSpan s) := by
  unfold spanB toSpan spanT
  by_cases h : s.1 < s.2
  · rw [if_pos h, if_pos h]
    simp [itB]
  · rw [if_neg h, if_neg h]
    simp [itB]
theorem rel_txt {x : Rl} (h : relOk x = true) : (relB x).data.toList = relT (toRel x) := by
  obtain ⟨hm, _⟩ := rel_ok h
  obtain ⟨m, nt, sp⟩ := x
  dsimp only at hm
  have e1 : sp.map (fun s => (spanB s).data.toList) = sp.map (fun s => spanT (toSpan s)) := List.map_congr_left fun s _ => span_txt s
  unfold relB headB relT headT toRel spansT jnB
  dsimp only
  by_cases h0 : 0 < m
  · rw [if_pos h0, if_neg (show ¬ m = 0 by omega)]
    cases nt <;> simp [modT, itB, Function.comp_def, e1]
  · obtain rfl : m = 0 := by omega
    rw [if_neg h0, if_pos rfl]
    cases nt <;> simp [modT, Function.comp_def, e1]
theorem row_txt {r : List Rl} (h : rowOk r = true) : (rowB r).data.toList = rowT (r.map toRel) := by
  have e1 : r.map (fun s => (relB s).data.toList) = r.map (fun s => relT (toRel s)) := List.map_congr_left fun s hs => rel_txt (row_ok h s hs)
  unfold rowB rowT jnB
  dsimp only
  rw [List.map_map, List.map_map]
  simp only [Function.comp_def, e1]
theorem rule_txt {l : List (List Rl)} (h : ruleOk l = true) : (ruleB l).data.toList = rulT (toRule l) := by
  have e1 : l.map (fun s => (rowB s).data.toList) = l.map (fun s => rowT (s.map toRel)) := List.map_congr_left fun s hs => row_txt (rule_ok h s hs)
  unfold ruleB rulT jnB toRule
  dsimp only
  rw [List.map_map, List.map_map]
  simp only [Function.comp_def, e1]
theorem c_span {s : Int × Int} (h : spanOk s = true) : cSpan (toSpan s) = s := by
  obtain ⟨lo, hi⟩ := s
  obtain ⟨h1, h2, h3⟩ := span_ok h
  dsimp only at *
  unfold cSpan toSpan
  dsimp only
  by_cases h0 : lo < hi
  · rw [if_pos h0]
    dsimp only
    rw [if_neg (by omega)]
  · rw [if_neg h0]
    obtain rfl : lo = hi := by omega
    rfl
theorem c_rel {x : Rl} (h : relOk x = true) : cRel (toRel x) = x := by
  obtain ⟨hm, hs⟩ := rel_ok h
  obtain ⟨m, nt, sp⟩ := x
  unfold cRel toRel
  dsimp only at *
  have e1 : (sp.map toSpan).map cSpan = sp := by
    rw [List.map_map]
    exact (List.map_congr_left fun s hs' => c_span (hs s hs')).trans (List.map_id _)
  rw [e1]
  by_cases h0 : m = 0
  · rw [if_pos h0, h0]; rfl
  · rw [if_neg h0]
    unfold cMod
    dsimp only
    rw [if_neg h0]
theorem c_rule {l : List (List Rl)} (h : ruleOk l = true) : ruleR (toRule l) = l := by
  unfold ruleR toRule
  rw [List.map_map]
  refine (List.map_congr_left fun r hr => ?_).trans (List.map_id _)
  show (r.map toRel).map cRel = id r
  rw [List.map_map]
  exact (List.map_congr_left fun s hs' => c_rel (row_ok (rule_ok h r hr) s hs')).trans (List.map_id _)
theorem t_span {s : Int × Option Int} (h : spanOk (cSpan s) = true) : toSpan (cSpan s) = s := by
  obtain ⟨lo, hi⟩ := s
  obtain ⟨h1, h2, h3⟩ := span_ok h
  unfold cSpan at *
  unfold toSpan
  dsimp only at *
  cases hi with
  | none =>
    dsimp only
    rw [if_neg (by omega)]
  | some k =>
    dsimp only at *
    by_cases hk : k ≤ lo
    · rw [if_pos hk] at h2; omega
    · simp only [if_neg hk, if_pos (show lo < k by omega)]
theorem t_rel {r : Raw} (h : relOk (cRel r) = true) : toRel (cRel r) = r := by
  obtain ⟨hm, hs⟩ := rel_ok h
  obtain ⟨m, nt, sp⟩ := r
  unfold cRel at *
  unfold toRel
  dsimp only at *
  have e1 : (sp.map cSpan).map toSpan = sp := by
    rw [List.map_map]
    exact (List.map_congr_left fun s hs' => t_span (hs (cSpan s) (List.mem_map.2 ⟨s, hs', rfl⟩))).trans (List.map_id _)
  rw [e1]
  cases m with
  | none => rfl
  | some k =>
    unfold cMod at *
    dsimp only at *
    by_cases hk : k = 0
    · rw [if_pos hk] at hm; omega
    · simp only [if_neg hk]
theorem t_rule {l : List (List Raw)} (h : ruleOk (ruleR l) = true) : toRule (ruleR l) = l := by
  unfold ruleR toRule at *
  rw [List.map_map]
  refine (List.map_congr_left fun r hr => ?_).trans (List.map_id _)
  show (r.map cRel).map toRel = id r
  have h1 := rule_ok h (r.map cRel) (List.mem_map.2 ⟨r, hr, rfl⟩)
  rw [List.map_map]
  exact (List.map_congr_left fun s hs' => t_rel (row_ok h1 (cRel s) (List.mem_map.2 ⟨s, hs', rfl⟩))).trans (List.map_id _)
theorem to_in {x : Rl} (h : relOk x = true) : rawIn (toRel x) := by
  have hl := rel_lens h
  obtain ⟨hm, hs⟩ := rel_ok h
  unfold rawIn toRel
  dsimp only
  refine ⟨?_, ?_, ?_⟩
  · intro m e
    split at e
    · cases e
    · injection e with e
      subst e
      exact ⟨by omega, by omega⟩
  · intro e
    rw [List.map_eq_nil_iff] at e
    rw [e] at hl
    simp at hl
  · intro s hs'
    obtain ⟨y, hy, rfl⟩ := List.mem_map.1 hs'
    obtain ⟨h1, h2, h3⟩ := span_ok (hs y hy)
    unfold toSpan spanIn
    dsimp only
    refine ⟨⟨h1, by omega⟩, fun k hk => ?_⟩
    split at hk
    · injection hk with hk
      subst hk
      exact ⟨by omega, h3⟩
    · cases hk
/-- WHAT IS PRINTED IS READ AS THE RULE -/
theorem back_print {l : List (List Rl)} (h : ruleOk l = true) (hs : (ruleB l).size ≤ 400) : parseF (ruleB l).data.toList = (l, 0, 0) := by
  have hl : ¬ 400 < (ruleB l).data.toList.length := by
    have : (ruleB l).data.toList.length = (ruleB l).size := rfl
    omega
  have h1 := raws_yes (toRule l) (by
    intro e
    have := rule_lens h
    rw [toRule, List.map_eq_nil_iff] at e
    rw [e] at this
    simp at this) (by
    intro r hr
    obtain ⟨q, hq, rfl⟩ := List.mem_map.1 hr
    have hq' := rule_ok h q hq
    refine ⟨?_, fun x hx => ?_⟩
    · intro e
      have := row_lens hq'
      rw [List.map_eq_nil_iff] at e
      rw [e] at this
      simp at this
    · obtain ⟨y, hy, rfl⟩ := List.mem_map.1 hx
      exact to_in (row_ok hq' y hy))
  rw [← rule_txt h] at h1
  unfold parseF
  rw [if_neg hl, if_pos h1.2, h1.1, c_rule h, if_pos h]
/-- WHAT IS READ WELL IS PRINTED AS THE TEXT -/
theorem back_read {sl : List UInt8} (h : (parseF sl).2.1 = 0) : ruleOk (parseF sl).1 = true ∧ (ruleB (parseF sl).1).data.toList = sl ∧ sl.length ≤ 400 := by
  unfold parseF at h ⊢
  by_cases h1 : 400 < sl.length
  · rw [if_pos h1] at h; cases h
  · rw [if_neg h1] at h ⊢
    by_cases h2 : (rawsS sl).2.bad = 0
    · rw [if_pos h2] at h ⊢
      by_cases h3 : ruleOk (ruleR (rawsS sl).1) = true
      · rw [if_pos h3]
        refine ⟨h3, ?_, by omega⟩
        dsimp only
        rw [rule_txt h3, t_rule h3]
        exact (raws_no h2).1
      · rw [if_neg h3] at h; cases h
    · rw [if_neg h2] at h
      exact absurd h h2
section
variable {sl : List UInt8}
theorem mustS_le : ∀ (t : List UInt8) (st : St), st.at_ ≤ sl.length → (mustS sl t st).at_ ≤ sl.length
  | [], _, h => h
  | c :: t, st, h => by
    rw [mustS]
    split
    · exact h
    · split
      · rename_i hc
        exact mustS_le t _ (List.getElem?_eq_some_iff.1 hc).1
      · rw [wrongS_at]; exact h
theorem numL_le : ∀ (l : List UInt8) (first : Bool) (n : Int) (a : Nat), a + l.length ≤ sl.length → (numL sl first n a l).2.at_ ≤ sl.length
  | [], first, n, a, h => by
    rw [numL]
    simp only [List.length_nil] at h
    split
    · rw [wrongS_at]; exact h
    · exact h
  | c :: l, first, n, a, h => by
    rw [numL]
    simp only [List.length_cons] at h
    split
    · split
      · rw [wrongS_at]; dsimp only; omega
      · exact numL_le l _ _ _ (by omega)
    · split
      · rw [wrongS_at]; dsimp only; omega
      · dsimp only; omega
theorem numS_le {st : St} (h : st.at_ ≤ sl.length) : (numS sl st).2.at_ ≤ sl.length := by
  unfold numS
  split
  · exact numL_le _ _ _ _ (by rw [List.length_drop]; omega)
  · exact h
theorem oneSpan_le {st : St} (h : st.at_ ≤ sl.length) : (oneSpan sl st).2.at_ ≤ sl.length := by
  unfold oneSpan
  split
  · exact numS_le (mustS_le _ _ (numS_le h))
  · exact numS_le h
theorem spansF_le : ∀ (f : Nat) {st : St}, st.at_ ≤ sl.length → (spansF sl f st).2.at_ ≤ sl.length
  | 0, _, h => h
  | f + 1, st, h => by
    rw [spansF]
    split
    · rename_i hc
      exact spansF_le f (isS_lt hc).2
    · exact oneSpan_le h
theorem headS_le {st : St} (h : st.at_ ≤ sl.length) : (headS sl st).2.2.at_ ≤ sl.length := by
  have h1 : ∀ st : St, st.at_ ≤ sl.length → (modS sl st).2.at_ ≤ sl.length := by
    intro st h
    unfold modS
    split
    · exact mustS_le _ _ (numS_le (mustS_le _ _ h))
    · exact h
  have h2 : ∀ st : St, st.at_ ≤ sl.length → (notS sl st).2.at_ ≤ sl.length := by
    intro st h
    unfold notS
    split
    · exact mustS_le _ _ h
    · exact h
  unfold headS
  exact mustS_le _ _ (h2 _ (h1 _ (mustS_le _ _ h)))
theorem relS_le {st : St} (h : st.at_ ≤ sl.length) : (relS sl st).2.at_ ≤ sl.length := by
  unfold relS
  exact spansF_le _ (headS_le h)
theorem loop_le : ∀ (f : Nat) (out : List (List Raw)) (row : List Raw) (st : St), st.at_ ≤ sl.length → (parseLoop sl f out row st).2.at_ ≤ sl.length
  | 0, _, _, _, h => h
  | f + 1, out, row, st, h => by
    rw [parseLoop]
    split
    · split
      · exact loop_le f _ _ _ (relS_le (mustS_le _ _ (mustS_le _ _ h)))
      · exact loop_le f _ _ _ (relS_le (mustS_le _ _ (mustS_le _ _ h)))
    · exact h
end
/-- WHERE NOTHING IS READ, THE PLACE LIES WITHIN THE TEXT -/
theorem back_bad {sl : List UInt8} (h : (parseF sl).2.1 ≠ 0) : (parseF sl).1 = [] ∧ 0 ≤ (parseF sl).2.2 ∧ (parseF sl).2.2 ≤ sl.length := by
  have hle : (rawsS sl).2.at_ ≤ sl.length := loop_le _ _ _ _ (relS_le (Nat.zero_le _))
  unfold parseF at h ⊢
  by_cases h1 : 400 < sl.length
  · rw [if_pos h1]; exact ⟨rfl, Int.le_refl _, by dsimp only; omega⟩
  · rw [if_neg h1] at h ⊢
    by_cases h2 : (rawsS sl).2.bad = 0
    · rw [if_pos h2] at h ⊢
      by_cases h3 : ruleOk (ruleR (rawsS sl).1) = true
      · rw [if_pos h3] at h; exact absurd rfl h
      · rw [if_neg h3]; exact ⟨rfl, Int.le_refl _, by dsimp only; omega⟩
    · rw [if_neg h2]
      exact ⟨rfl, by dsimp only; omega, by dsimp only; omega⟩
end Go.Proofs.YtfafinnklniniaaDoor
