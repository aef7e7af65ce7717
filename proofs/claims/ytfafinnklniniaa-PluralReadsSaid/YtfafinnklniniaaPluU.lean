/-
  WHAT IS PROVED HERE: what the code and the reference make of the same reading of a rule is the same (plain Lean, no program in sight). No condition.
-/
import Derived.Test.YtfafinnklniniaaPluS
namespace Go.Proofs.Ytfafinnklniniaa
open Go.RowKit

def ruleP (l : List (List Raw)) : List (List Rl) := l.map (·.map rRel)
def mayAll (l : List (List Raw)) : Bool := l.all (·.all mayR)
/-- what the reference's Parse hands back -/
def parseP (sl : List UInt8) : List (List Rl) × Int × Int :=
  if 400 < sl.length then ([], 2, 0)
  else if (rawsS sl).2.bad = 0 then (if (mayAll (rawsS sl).1 && ruleOk (ruleP (rawsS sl).1)) = true then (ruleP (rawsS sl).1, 0, 0) else ([], 1, 0))
  else ([], (rawsS sl).2.bad, (rawsS sl).2.at_)
theorem span_may {s : Int × Option Int} (h : maySpan s = true) : cSpan s = rSpan s := by
  obtain ⟨lo, hi⟩ := s
  cases hi with
  | none => rfl
  | some h' =>
    unfold maySpan at h
    unfold cSpan rSpan
    dsimp only at *
    rw [if_neg (by simpa using h)]
theorem rel_may {r : Raw} (h : mayR r = true) : cRel r = rRel r := by
  obtain ⟨m, nt, sps⟩ := r
  unfold mayR at h
  simp only [Bool.and_eq_true, List.all_eq_true] at h
  obtain ⟨h1, h2⟩ := h
  unfold cRel rRel
  congr 1
  · cases m with
    | none => rfl
    | some k =>
      unfold mayMod at h1
      unfold cMod rMod
      rw [decide_eq_true_eq] at h1
      dsimp only
      rw [if_neg (by omega)]
  · exact List.map_congr_left fun s hs => span_may (h2 s hs)
theorem rel_not {r : Raw} (h : mayR r = false) : relOk (cRel r) = false := by
  obtain ⟨m, nt, sps⟩ := r
  unfold mayR at h
  rw [Bool.and_eq_false_iff] at h
  unfold relOk cRel
  dsimp only
  rcases h with h | h
  · cases m with
    | none => cases h
    | some k =>
      unfold mayMod at h
      rw [decide_eq_false_iff_not] at h
      have : decide (cMod (some k) = 0 ∨ (2 ≤ cMod (some k) ∧ cMod (some k) ≤ 1000000)) = false := by
        unfold cMod
        dsimp only
        split <;> simp <;> omega
      rw [this]
      simp
  · have : (sps.map cSpan).all spanOk = false := by
      rw [List.all_eq_false] at h ⊢
      obtain ⟨s, hs, hm⟩ := h
      refine ⟨cSpan s, List.mem_map.2 ⟨s, hs, rfl⟩, ?_⟩
      obtain ⟨lo, hi⟩ := s
      cases hi with
      | none => exact absurd rfl hm
      | some h' =>
        unfold maySpan at hm
        have he : cSpan (lo, some h') = (lo, -1) := by
          unfold cSpan
          dsimp only at *
          rw [if_pos (by simpa using hm)]
        rw [he]
        unfold spanOk
        simp
        omega
    rw [this]
    simp
theorem rule_may {l : List (List Raw)} (h : mayAll l = true) : ruleR l = ruleP l := by
  unfold mayAll at h
  simp only [List.all_eq_true] at h
  exact List.map_congr_left fun r hr => List.map_congr_left fun x hx => rel_may (h r hr x hx)
theorem rule_not {l : List (List Raw)} (h : mayAll l = false) : ruleOk (ruleR l) = false := by
  unfold mayAll at h
  rw [List.all_eq_false] at h
  obtain ⟨r, hr, h⟩ := h
  rw [Bool.not_eq_true, List.all_eq_false] at h
  obtain ⟨x, hx, h⟩ := h
  have h3 : rowOk (r.map cRel) = false := by
    unfold rowOk
    have : (r.map cRel).all relOk = false := by
      rw [List.all_eq_false]
      exact ⟨cRel x, List.mem_map.2 ⟨x, hx, rfl⟩, by rw [rel_not (by simpa using h)]; simp⟩
    rw [this]
    simp
  unfold ruleOk
  have : (ruleR l).all rowOk = false := by
    rw [List.all_eq_false]
    exact ⟨r.map cRel, List.mem_map.2 ⟨r, hr, rfl⟩, by rw [h3]; simp⟩
  rw [this]
  simp
theorem parse_same (sl : List UInt8) : parseF sl = parseP sl := by
  unfold parseF parseP
  split
  · rfl
  split
  · cases hm : mayAll (rawsS sl).1
    · rw [rule_not hm, Bool.false_and]
      rfl
    · rw [rule_may hm, Bool.true_and]
  · rfl
end Go.Proofs.Ytfafinnklniniaa
