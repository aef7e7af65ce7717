/-
  WHAT IS PROVED HERE: Rows.QuorumMeetsSaid: the law QuorumMeets returns true at every input that can be read, and leaves its arguments as they were.
-/
import Derived.Test.YtfaigomhnhgjfaaLaw16a
import Derived.Test.YtfaigomhnhgjfaaOpen
namespace Go.Proofs.Ytfaigomhnhgjfaa.quorumMeets
open Go.ChangeShapes Go.WideShapes Go.ChangeAt Go.RowKit
set_option linter.unusedVariables false

theorem own : ownKnob Try.prog.godebug = none := by kernel_rfl
theorem laidOut : laidOutB Try.prog = true := by kernel_rfl

set_option maxRecDepth 100000 in
theorem lifted (os : Os) (started : os.Started) (H : Type) (enc : TypeId × Value → H) :
    ReturnsInHanded {} Try.checked os 4 .any (Rows.quorumMeetsSpec.pre6 enc Try.prog Try.f4 Rows.quorumMeetsRow.domain false) (Rows.quorumMeetsSpec.post enc Try.prog Try.f4 false true false false) := by
  refine returnsInHanded_of_change_sized (C := Try.checked) own started (by kernel_rfl) Try.func4
    (ChangeSpec.witness6 (enc := enc) (C := Try.checked) false ⟨#[], #[.slice none 0 0, .slice none 0 0, .slice none 0 0, .slice none 0 0], []⟩ 8 (by kernel_rfl) (by kernel_rfl) (by kernel_rfl) (by kernel_rfl)) ?_
  intro W base args ds gs before hval0 hW hcnd hsz0 _
  have hval : ∀ (j : Nat) t v, Try.f4.params[j]? = some t → args[j]? = some v → Value.okWide Try.prog W .any base t v := hval0
  have hsz : (DataW.weightsEach Try.prog (Try.f4.params.toList ++ Rows.quorumMeetsSpec.plain.varTypes Try.prog) (ds ++ gs)).all (· ≤ reachBytes) = true := hsz0
  have hW' := hW
  obtain ⟨p, q, hA0, hV, rfl, hfz, hnd⟩ := hW
  have hA : DataW.TrodAll enc Try.prog W 0 (fun _ => true) true Try.f4.params.toList args.toList ds p := hA0
  rw [Try.params4] at hA hval hsz
  obtain ⟨v0, vs0, d0, ds0, p0, q0, hargs, rfl, rfl, h0, r0⟩ := trodAll_cons hA
  obtain ⟨v1, vs1, d1, ds1, p1, q1, rfl, rfl, rfl, h1, r1⟩ := trodAll_cons r0
  obtain ⟨v2, vs2, d2, ds2, p2, q2, rfl, rfl, rfl, h2, r2⟩ := trodAll_cons r1
  obtain ⟨v3, vs3, d3, ds3, p3, q3, rfl, rfl, rfl, h3, r3⟩ := trodAll_cons r2
  obtain ⟨rfl, rfl, rfl⟩ := trodAll_nil r3
  obtain rfl : args = #[v0, v1, v2, v3] := by cases args; simp_all
  obtain ⟨rfl, rfl⟩ := trodVars_none hV
  have k0 := h0
  have lt0 := trod_lt' h0
  obtain ⟨a0, len0, cap0, z0, rfl, i0, lc0, hs0, b0⟩ := open_intsl Try.underlying22 Try.underlying3 (by kernel_rfl) (by kernel_rfl) (hval 0 22 v0 rfl rfl) h0 (weights_at hsz (j := 0) rfl rfl)
  have k1 := h1
  have lt1 := trod_lt' h1
  obtain ⟨a1, len1, cap1, z1, rfl, i1, lc1, hs1, b1⟩ := open_intsl Try.underlying22 Try.underlying3 (by kernel_rfl) (by kernel_rfl) (hval 1 22 v1 rfl rfl) h1 (weights_at hsz (j := 1) rfl rfl)
  have k2 := h2
  have lt2 := trod_lt' h2
  obtain ⟨a2, len2, cap2, z2, rfl, i2, lc2, hs2, b2⟩ := open_intsl Try.underlying22 Try.underlying3 (by kernel_rfl) (by kernel_rfl) (hval 2 22 v2 rfl rfl) h2 (weights_at hsz (j := 2) rfl rfl)
  have k3 := h3
  have lt3 := trod_lt' h3
  obtain ⟨a3, len3, cap3, z3, rfl, i3, lc3, hs3, b3⟩ := open_intsl Try.underlying22 Try.underlying3 (by kernel_rfl) (by kernel_rfl) (hval 3 22 v3 rfl rfl) h3 (weights_at hsz (j := 3) rfl rfl)
  clear hA0 hval0 hsz0
  refine (LawMeets_walk a0 len0 cap0 z0 i0 lc0 hs0 b0 a1 len1 cap1 z1 i1 lc1 hs1 b1 a2 len2 cap2 z2 i2 lc2 hs2 b2 a3 len3 cap3 z3 i3 lc3 hs3 b3).mono fun e W' ⟨he, bel⟩ => ?_
  subst he
  exact ⟨_, rfl, _, _, _, [], _, [], hW', trodAll_mk1 (shut_bool Try.underlying4 _), (trodAll_cons_mk (Below.trod laidOut (by kernel_rfl) (of_decide_eq_true (by kernel_rfl)) k0 bel lt0) (trodAll_cons_mk (Below.trod laidOut (by kernel_rfl) (of_decide_eq_true (by kernel_rfl)) k1 bel lt1) (trodAll_cons_mk (Below.trod laidOut (by kernel_rfl) (of_decide_eq_true (by kernel_rfl)) k2 bel lt2) (trodAll_cons_mk (Below.trod laidOut (by kernel_rfl) (of_decide_eq_true (by kernel_rfl)) k3 bel lt3) trodAll_mk0)))), rfl, bel.frame _, fun h => by cases h⟩

theorem over : Rows.quorumMeetsRow.holds Try.pinned (OpenSpec.ofChange Rows.quorumMeetsSpec) :=
  OpenClaim.holds_of_wide 4 Try.f4 rfl rfl rfl rfl rfl rfl rfl ⟨rfl, rfl, rfl, rfl, rfl⟩ rfl rfl rfl rfl rfl (by kernel_rfl) Try.func4 (by kernel_rfl)
    (of_decide_eq_true (by kernel_rfl)) (by unfold Func.isWrapper; first | (rw [if_pos (by decide +kernel)]; kernel_rfl) | (rw [if_neg (by decide +kernel)]; exact ⟨rfl, rfl⟩))
    (fun os started H enc _ => lifted os started H enc)

/-- THE STATEMENT -/
theorem proved : Rows.QuorumMeetsSaid := over
end Go.Proofs.Ytfaigomhnhgjfaa.quorumMeets
theorem Go.Proofs.Ytfaigomhnhgjfaa.quorumMeets_proved : Go.Proofs.Ytfaigomhnhgjfaa.Rows.QuorumMeetsSaid := Go.Proofs.Ytfaigomhnhgjfaa.quorumMeets.proved
