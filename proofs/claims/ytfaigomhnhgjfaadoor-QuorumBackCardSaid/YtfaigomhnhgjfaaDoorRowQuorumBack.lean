/-
  WHAT IS PROVED HERE: the tied card Rows.QuorumBackCardSaid: the law QuorumBack returns true at every input that can be read, the listed variables being laid as the program's text lays them, and leaves its arguments as they were.
-/
import Derived.Test.YtfaigomhnhgjfaaDoorLaw16b
import Derived.Test.YtfaigomhnhgjfaaDoorOpen
import Derived.Test.YtfaigomhnhgjfaaDoorLift
import Derived.Test.YtfaigomhnhgjfaaDoorCards
import Derived.Test.YtfaigomhnhgjfaaDoorTie
import Derived.SevenTiedAt
namespace Go.Proofs.YtfaigomhnhgjfaaDoor.quorumBack
open Go.ChangeShapes Go.WideShapes Go.ChangeAt Go.RowKit
set_option linter.unusedVariables false

set_option maxRecDepth 100000 in
theorem lifted (os : Os) (started : os.Started) (H : Type) (enc : TypeId × Value → H) :
    ReturnsInHanded {} Tryd.checked os 5 .any (fun w args => (Rows.quorumBackSpec.pre enc Tryd.prog Tryd.f5 [] false w args ∧ laidMetH Tryd.prog Rows.quorumBackRow.laid w) ∧ sizedMet enc Tryd.prog Tryd.f5 (OpenSpec.ofChange Rows.quorumBackSpec) false w args) (Rows.quorumBackSpec.post enc Tryd.prog Tryd.f5 false true false false) := by
  refine handed_all (C := Tryd.checked) (X := fun w _ => laidMetH Tryd.prog Rows.quorumBackRow.laid w) (fun _ _ _ hh h => h.of_heap hh) own started (by kernel_rfl) Tryd.func5
    (ChangeSpec.witness_shaped (enc := enc) (C := Tryd.checked) (os := os) (X := fun w _ => laidMetH Tryd.prog Rows.quorumBackRow.laid w) false (World.laidAll Tryd.prog os Rows.quorumBackRow.laid) #[.slice none 0 0, .slice none 0 0, .string ByteArray.empty] 8 (World.laidAll_os _ _ _)
      (World.shaped_of_ZipB (by kernel_rfl) (by kernel_rfl)) (by kernel_rfl) (by kernel_rfl) (by kernel_rfl)
      (by rw [MakeChecks.laidMetH_plain _ _ _ (by kernel_rfl)]; exact laidMet_laidAll _ (by kernel_rfl) (by kernel_rfl))) ?_
  intro W base args ds gs before hval0 hW hsz0 _ hsh
  obtain ⟨mm, hmm⟩ := maxlen_cell hsh
  have hval : ∀ (j : Nat) t v, Tryd.f5.params[j]? = some t → args[j]? = some v → Value.okWide Tryd.prog W .any base t v := hval0
  have hsz : (DataW.weightsEach Tryd.prog (Tryd.f5.params.toList ++ Rows.quorumBackSpec.plain.varTypes Tryd.prog) (ds ++ gs)).all (· ≤ reachBytes) = true := hsz0
  have hW' := hW
  obtain ⟨p, q, hA0, hV, rfl, hfz, hnd⟩ := hW
  have hA : DataW.TrodAll enc Tryd.prog W 0 (fun _ => true) true Tryd.f5.params.toList args.toList ds p := hA0
  rw [Tryd.params5] at hA hval hsz
  obtain ⟨v0, vs0, d0, ds0, p0, q0, hargs, rfl, rfl, h0, r0⟩ := trodAll_cons hA
  obtain ⟨v1, vs1, d1, ds1, p1, q1, rfl, rfl, rfl, h1, r1⟩ := trodAll_cons r0
  obtain ⟨v2, vs2, d2, ds2, p2, q2, rfl, rfl, rfl, h2, r2⟩ := trodAll_cons r1
  obtain ⟨rfl, rfl, rfl⟩ := trodAll_nil r2
  obtain rfl : args = #[v0, v1, v2] := by cases args; simp_all
  obtain ⟨rfl, rfl⟩ := trodVars_none hV
  have k0 := h0
  have lt0 := trod_lt' h0
  obtain ⟨a0, len0, cap0, z0, rfl, i0, lc0, hs0, b0⟩ := open_intsl Tryd.underlying25 Tryd.underlying3 (by kernel_rfl) (by kernel_rfl) (hval 0 25 v0 rfl rfl) h0 (weights_at hsz (j := 0) rfl rfl)
  have k1 := h1
  have lt1 := trod_lt' h1
  obtain ⟨a1, len1, cap1, z1, rfl, i1, lc1, hs1, b1⟩ := open_intsl Tryd.underlying25 Tryd.underlying3 (by kernel_rfl) (by kernel_rfl) (hval 1 25 v1 rfl rfl) h1 (weights_at hsz (j := 1) rfl rfl)
  have k2 := h2
  have lt2 := trod_lt' h2
  obtain ⟨s2, rfl, hs2⟩ := open_string_ Tryd.underlying9 (hval 2 9 v2 rfl rfl) h2 (weights_at hsz (j := 2) rfl rfl)
  clear hA0 hval0 hsz0
  refine (LawBack_walk mm hmm a0 len0 cap0 z0 i0 lc0 hs0 b0 a1 len1 cap1 z1 i1 lc1 hs1 b1 s2 hs2).mono fun e W' ⟨he, bel⟩ => ?_
  subst he
  exact ⟨_, rfl, _, _, _, [], _, [], hW', trodAll_mk1 (shut_bool Tryd.underlying4 _), (trodAll_cons_mk (Below.trod laidOut (by kernel_rfl) (of_decide_eq_true (by kernel_rfl)) k0 bel lt0) (trodAll_cons_mk (Below.trod laidOut (by kernel_rfl) (of_decide_eq_true (by kernel_rfl)) k1 bel lt1) (trodAll_cons_mk (Below.trod laidOut (by kernel_rfl) (of_decide_eq_true (by kernel_rfl)) k2 bel lt2) trodAll_mk0))), rfl, bel.frame _, fun h => by cases h⟩

theorem over : Rows.quorumBackRow.holds Tryd.pinned (OpenSpec.ofChange Rows.quorumBackSpec) :=
  OpenClaim.holds_of_wide 5 Tryd.f5 rfl rfl rfl rfl rfl rfl rfl ⟨rfl, rfl, rfl, rfl, rfl⟩ rfl rfl rfl rfl rfl (by kernel_rfl) Tryd.func5 (by kernel_rfl)
    (of_decide_eq_true (by kernel_rfl)) (by unfold Func.isWrapper; first | (rw [if_pos (by decide +kernel)]; kernel_rfl) | (rw [if_neg (by decide +kernel)]; exact ⟨rfl, rfl⟩))
    (fun os started H enc _ => lifted os started H enc)

set_option maxRecDepth 100000 in
theorem card : Rows.QuorumBackCardSaid :=
  Claim7.holds_tied_plain_at .later [] [.data, .pinned] true (true, "24e55ca155e656f9adad2ab222c3cf715cc3fe213162ff3d790d8446e6ca4b61") false over (fun _ h => by cases h) (by kernel_rfl) (fun _ h => by cases h) quorumBack_row_tie rfl ⟨rfl, rfl⟩ (by kernel_rfl) rfl
    (fun f fn hf hfn => by
      obtain rfl : f = 5 := Option.some.inj ((show Tryd.prog.funcNamed "hornbook/hornbooklaw16.QuorumBack" = some 5 by kernel_rfl).symm.trans hf) |>.symm
      obtain rfl : fn = Tryd.f5 := (Option.some.inj (Tryd.func5.symm.trans hfn)).symm
      exact ⟨by kernel_rfl, fun j t ht => by
        rw [Tryd.params5] at ht
        have hm : t ∈ [25, 25, 9] := by simpa using Array.mem_of_getElem? ht
        have hall : ([25, 25, 9].all fun u => !Tryd.prog.wantsStandIn u) = true := by kernel_rfl
        exact (show Tryd.prog.wantsStandIn t = false by simpa using List.all_eq_true.1 hall t hm)⟩)
    (by kernel_rfl)
end Go.Proofs.YtfaigomhnhgjfaaDoor.quorumBack
theorem Go.Proofs.YtfaigomhnhgjfaaDoor.quorumBack_card : Go.Proofs.YtfaigomhnhgjfaaDoor.Rows.QuorumBackCardSaid := Go.Proofs.YtfaigomhnhgjfaaDoor.quorumBack.card
