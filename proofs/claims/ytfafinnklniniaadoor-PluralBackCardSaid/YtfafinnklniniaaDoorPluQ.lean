/-
  WHAT IS PROVED HERE: how a whole rule is read, in plain Lean, and what reading keeps. No program in sight. No condition.
-/
import Derived.Test.YtfafinnklniniaaDoorPluP
namespace Go.Proofs.YtfafinnklniniaaDoor
open Go.RowKit

section
variable (sl : List UInt8)
def parseLoop : Nat → List (List Raw) → List Raw → St → List (List Raw) × St
  | 0, out, row, st => (out ++ [row], st)
  | f + 1, out, row, st =>
    if st.bad = 0 ∧ st.at_ < sl.length then
      if isS sl 97 (mustS sl [32] st) then
        parseLoop f out (row ++ [(relS sl (mustS sl [97, 110, 100, 32] (mustS sl [32] st))).1]) (relS sl (mustS sl [97, 110, 100, 32] (mustS sl [32] st))).2
      else parseLoop f (out ++ [row]) [(relS sl (mustS sl [111, 114, 32] (mustS sl [32] st))).1] (relS sl (mustS sl [111, 114, 32] (mustS sl [32] st))).2
    else (out ++ [row], st)
def rawsS : List (List Raw) × St := parseLoop sl (sl.length + 1) [] [(relS sl ⟨0, 0⟩).1] (relS sl ⟨0, 0⟩).2
end
def ruleR (l : List (List Raw)) : List (List Rl) := l.map (·.map cRel)
/-- what Parse hands back: the rule, the error, its place -/
def parseF (sl : List UInt8) : List (List Rl) × Int × Int :=
  if 400 < sl.length then ([], 2, 0)
  else if (rawsS sl).2.bad = 0 then (if ruleOk (ruleR (rawsS sl).1) then (ruleR (rawsS sl).1, 0, 0) else ([], 1, 0))
  else ([], (rawsS sl).2.bad, (rawsS sl).2.at_)
theorem mustS_bad' (sl : List UInt8) (t : List UInt8) {st : St} (h : st.bad ≠ 0) : mustS sl t st = st := mustS_bad sl t h
theorem isS_bad (sl : List UInt8) (c : UInt8) {st : St} (h : st.bad ≠ 0) : isS sl c st = false := by unfold isS; rw [decide_eq_false h]; rfl
theorem numS_bad (sl : List UInt8) {st : St} (h : st.bad ≠ 0) : numS sl st = (0, st) := if_neg h
theorem relS_bad (sl : List UInt8) {st : St} (h : st.bad ≠ 0) : (relS sl st).2 = st := by
  have h1 : ∀ f, (spansF sl (f + 1) st).2 = st := by
    intro f
    rw [spansF, oneSpan, numS_bad sl h]
    dsimp only
    rw [isS_bad sl 46 h]
    simp [isS_bad sl 44 h]
  have h2 : (headS sl st).2.2 = st := by
    unfold headS modS notS
    simp [mustS_bad' sl _ h, isS_bad sl _ h]
  unfold relS
  dsimp only
  rw [h2]
  exact h1 _
theorem mustS_ok (sl : List UInt8) : ∀ (t : List UInt8) (st : St), (mustS sl t st).bad = 0 → st.bad = 0 ∧ (mustS sl t st).at_ = st.at_ + t.length
  | [], st, h => ⟨h, rfl⟩
  | c :: t, st, h => by
    rw [mustS] at h ⊢
    split at h
    · rename_i hb; exact absurd h hb
    · rename_i hb
      split at h
      · rename_i hc
        obtain ⟨h1, h2⟩ := mustS_ok sl t _ h
        rw [if_neg hb, if_pos hc]
        refine ⟨by omega, ?_⟩
        rw [h2]
        simp; omega
      · exfalso
        unfold wrongS at h
        split at h
        · dsimp only at h
          split at h <;> omega
        · rename_i h0; exact h0 h
theorem spansF_mono (sl : List UInt8) : ∀ (f : Nat) (st : St), st.at_ ≤ (spansF sl f st).2.at_
  | 0, st => Nat.le_refl _
  | f + 1, st => by
    have h1 := oneSpan_mono sl st
    rw [spansF]
    split
    · have := spansF_mono sl f ⟨(oneSpan sl st).2.at_ + 1, 0⟩
      dsimp only at this ⊢
      omega
    · exact h1
theorem relS_mono (sl : List UInt8) (st : St) : st.at_ ≤ (relS sl st).2.at_ := by
  have h0 := mustS_mono sl [105, 32] st
  have h1 : ∀ st, st.at_ ≤ (modS sl st).2.at_ := by
    intro st
    unfold modS
    split
    · have a1 := mustS_mono sl [37, 32] st
      have a2 := numS_mono sl (mustS sl [37, 32] st)
      have a3 := mustS_mono sl [32] (numS sl (mustS sl [37, 32] st)).2
      dsimp only
      omega
    · exact Nat.le_refl _
  have h2 : ∀ st, st.at_ ≤ (notS sl st).2.at_ := by
    intro st
    unfold notS
    split
    · exact mustS_mono sl [33] st
    · exact Nat.le_refl _
  have h3 := h1 (mustS sl [105, 32] st)
  have h4 := h2 (modS sl (mustS sl [105, 32] st)).2
  have h5 := mustS_mono sl [61, 32] (notS sl (modS sl (mustS sl [105, 32] st)).2).2
  have h6 := spansF_mono sl (sl.length + 1) (headS sl st).2.2
  have h7 : (headS sl st).2.2 = mustS sl [61, 32] (notS sl (modS sl (mustS sl [105, 32] st)).2).2 := rfl
  unfold relS
  dsimp only
  rw [h7] at h6 ⊢
  omega
/-- behind a part that was read well, reading stands further on -/
theorem step_ok (sl t : List UInt8) (st : St) (h : (relS sl (mustS sl t (mustS sl [32] st))).2.bad = 0) : st.bad = 0 ∧ st.at_ + 1 ≤ (relS sl (mustS sl t (mustS sl [32] st))).2.at_ := by
  have h1 : (mustS sl t (mustS sl [32] st)).bad = 0 := by
    rcases Decidable.em ((mustS sl t (mustS sl [32] st)).bad = 0) with h0 | h0
    · exact h0
    · rw [relS_bad sl h0] at h; exact absurd h h0
  obtain ⟨h2, h3⟩ := mustS_ok sl t _ h1
  obtain ⟨h4, h5⟩ := mustS_ok sl [32] _ h2
  have h6 := relS_mono sl (mustS sl t (mustS sl [32] st))
  simp at h5
  exact ⟨h4, by omega⟩
end Go.Proofs.YtfafinnklniniaaDoor
