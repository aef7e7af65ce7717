/-
  WHAT IS PROVED HERE: Rows.JournalMatchesSaid: the law JournalMatches returns true at every input that can be read, and leaves its arguments as they were.
-/
import Derived.Test.YthaddhdlmlnclaaJrnW
import Derived.Test.YthaddhdlmlnclaaOpen
import Derived.Test.YthaddhdlmlnclaaOpenJ
namespace Go.Proofs.Ythaddhdlmlnclaa.journalMatches
open Go.ChangeShapes Go.WideShapes Go.ChangeAt Go.RowKit
set_option linter.unusedVariables false

theorem own : ownKnob Try.prog.godebug = none := by kernel_rfl
theorem laidOut : laidOutB Try.prog = true := by kernel_rfl

set_option maxRecDepth 100000 in
theorem lifted (os : Os) (started : os.Started) (H : Type) (enc : TypeId × Value → H) :
    ReturnsInHanded {} Try.checked os 7 .any (Rows.journalMatchesSpec.pre6 enc Try.prog Try.f7 Rows.journalMatchesRow.domain false) (Rows.journalMatchesSpec.post enc Try.prog Try.f7 false true false false) := by
  refine returnsInHanded_of_change_sized (C := Try.checked) own started (by kernel_rfl) Try.func7
    (ChangeSpec.witness6 (enc := enc) (C := Try.checked) false ⟨#[], #[.agg #[.int .i64 0, .int .i64 0, .slice none 0 0], .slice none 0 0, .slice none 0 0, .slice none 0 0], []⟩ 8 (by kernel_rfl) (by kernel_rfl) (by kernel_rfl) (by kernel_rfl)) ?_
  intro W base args ds gs before hval0 hW hcnd hsz0 _
  have hval : ∀ (j : Nat) t v, Try.f7.params[j]? = some t → args[j]? = some v → Value.okWide Try.prog W .any base t v := hval0
  have hsz : (DataW.weightsEach Try.prog (Try.f7.params.toList ++ Rows.journalMatchesSpec.plain.varTypes Try.prog) (ds ++ gs)).all (· ≤ reachBytes) = true := hsz0
  have hW' := hW
  obtain ⟨p, q, hA0, hV, rfl, hfz, hnd⟩ := hW
  have hA : DataW.TrodAll enc Try.prog W 0 (fun _ => true) true Try.f7.params.toList args.toList ds p := hA0
  rw [Try.params7] at hA hval hsz
  obtain ⟨v0, vs0, d0, ds0, p0, q0, hargs, rfl, rfl, h0, r0⟩ := trodAll_cons hA
  obtain ⟨v1, vs1, d1, ds1, p1, q1, rfl, rfl, rfl, h1, r1⟩ := trodAll_cons r0
  obtain ⟨v2, vs2, d2, ds2, p2, q2, rfl, rfl, rfl, h2, r2⟩ := trodAll_cons r1
  obtain ⟨v3, vs3, d3, ds3, p3, q3, rfl, rfl, rfl, h3, r3⟩ := trodAll_cons r2
  obtain ⟨rfl, rfl, rfl⟩ := trodAll_nil r3
  obtain rfl : args = #[v0, v1, v2, v3] := by cases args; simp_all
  obtain ⟨rfl, rfl⟩ := trodVars_none hV
  have k0 := h0
  have lt0 := trod_lt' h0
  obtain ⟨l0, a0, len0, cap0, rfl, i0, lc0, hs0⟩ := open_log (hval 0 24 v0 rfl rfl) h0 (weights_at hsz (j := 0) rfl rfl)
  have k1 := h1
  have lt1 := trod_lt' h1
  obtain ⟨a1, len1, cap1, rs1, rfl, i1, lc1, hs1⟩ := open_recs (hval 1 22 v1 rfl rfl) h1 (weights_at hsz (j := 1) rfl rfl)
  have k2 := h2
  have lt2 := trod_lt' h2
  obtain ⟨a2, len2, cap2, rs2, rfl, i2, lc2, hs2⟩ := open_recs (hval 2 22 v2 rfl rfl) h2 (weights_at hsz (j := 2) rfl rfl)
  have k3 := h3
  have lt3 := trod_lt' h3
  obtain ⟨a3, len3, cap3, rs3, rfl, i3, lc3, hs3⟩ := open_recs (hval 3 22 v3 rfl rfl) h3 (weights_at hsz (j := 3) rfl rfl)
  clear hA0 hval0 hsz0
  refine (LawMatches_walk l0 a0 len0 cap0 i0 lc0 hs0 a1 len1 cap1 rs1 i1 lc1 hs1 a2 len2 cap2 rs2 i2 lc2 hs2 a3 len3 cap3 rs3 i3 lc3 hs3).mono fun e W' ⟨he, bel⟩ => ?_
  subst he
  exact ⟨_, rfl, _, _, _, [], _, [], hW', trodAll_mk1 (shut_bool Try.underlying4 _), (trodAll_cons_mk (Below.trod laidOut (by kernel_rfl) (of_decide_eq_true (by kernel_rfl)) k0 bel lt0) (trodAll_cons_mk (Below.trod laidOut (by kernel_rfl) (of_decide_eq_true (by kernel_rfl)) k1 bel lt1) (trodAll_cons_mk (Below.trod laidOut (by kernel_rfl) (of_decide_eq_true (by kernel_rfl)) k2 bel lt2) (trodAll_cons_mk (Below.trod laidOut (by kernel_rfl) (of_decide_eq_true (by kernel_rfl)) k3 bel lt3) trodAll_mk0)))), rfl, bel.frame _, fun h => by cases h⟩

theorem over : Rows.journalMatchesRow.holds Try.pinned (OpenSpec.ofChange Rows.journalMatchesSpec) :=
  OpenClaim.holds_of_wide 7 Try.f7 rfl rfl rfl rfl rfl rfl rfl ⟨rfl, rfl, rfl, rfl, rfl⟩ rfl rfl rfl rfl rfl (by kernel_rfl) Try.func7 (by kernel_rfl)
    (of_decide_eq_true (by kernel_rfl)) (by unfold Func.isWrapper; first | (rw [if_pos (by decide +kernel)]; kernel_rfl) | (rw [if_neg (by decide +kernel)]; exact ⟨rfl, rfl⟩))
    (fun os started H enc _ => lifted os started H enc)

/-- THE STATEMENT -/
theorem proved : Rows.JournalMatchesSaid := over
end Go.Proofs.Ythaddhdlmlnclaa.journalMatches
theorem Go.Proofs.Ythaddhdlmlnclaa.journalMatches_proved : Go.Proofs.Ythaddhdlmlnclaa.Rows.JournalMatchesSaid := Go.Proofs.Ythaddhdlmlnclaa.journalMatches.proved
