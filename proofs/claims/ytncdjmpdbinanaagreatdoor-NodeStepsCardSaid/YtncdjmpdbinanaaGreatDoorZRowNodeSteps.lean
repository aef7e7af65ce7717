/-
  WHAT IS PROVED HERE: the tied card Rows.NodeStepsCardSaid: the law NodeSteps returns true at every input that can be read, the listed variables being laid as the program's text lays them, and leaves its arguments as they were.
-/
import Derived.Test.YtncdjmpdbinanaaGreatDoorZLaw20a
import Derived.Test.YtncdjmpdbinanaaGreatDoorZGOpn
import Derived.Test.YtncdjmpdbinanaaGreatDoorZGLif
import Derived.Test.YtncdjmpdbinanaaGreatDoorCards
import Derived.Test.YtncdjmpdbinanaaGreatDoorTie
import Derived.Test.YtncdjmpdbinanaaGreatDoorZGOpN
import Derived.Lib.LaidTab
import Derived.Stop.LaidErr
import Derived.SevenTiedAt
namespace Go.Proofs.YtncdjmpdbinanaaGreatDoor.nodeSteps
open Go.ChangeShapes Go.WideShapes Go.ChangeAt Go.RowKit
set_option linter.unusedVariables false

theorem tab_laid {W : World} (h : laidMetH Tryz.prog Rows.nodeStepsRow.laid W) : Tab W := by
  rw [MakeChecks.laidMetH_plain _ _ _ (by kernel_rfl)] at h
  exact tab_of (Lib.tabIs_of_head (g := 1) (t := 227) (e := 209) (n := 20) (rest := _) (by kernel_rfl) (by kernel_rfl) Tryz.underlying227 Tryz.underlying209 (by kernel_rfl) (by kernel_rfl) (laidMet.tail (laidMet.tail h)))
set_option maxRecDepth 100000 in
theorem lifted (os : Os) (started : os.Started) (H : Type) (enc : TypeId × Value → H) :
    ReturnsInHanded {} Tryz.checked os 10 .any (fun w args => (Rows.nodeStepsSpec.pre enc Tryz.prog Tryz.f10 [] false w args ∧ laidMetH Tryz.prog Rows.nodeStepsRow.laid w) ∧ sizedMet enc Tryz.prog Tryz.f10 (OpenSpec.ofChange Rows.nodeStepsSpec) false w args) (Rows.nodeStepsSpec.post enc Tryz.prog Tryz.f10 false true false false) := by
  refine handed_all (C := Tryz.checked) (X := fun w _ => laidMetH Tryz.prog Rows.nodeStepsRow.laid w) (fun _ _ _ hh h => h.of_heap hh) own started (by kernel_rfl) Tryz.func10
    (ChangeSpec.witness_shaped (enc := enc) (C := Tryz.checked) (os := os) (X := fun w _ => laidMetH Tryz.prog Rows.nodeStepsRow.laid w) false (World.laidAll Tryz.prog os Rows.nodeStepsRow.laid) #[.agg #[.int .i64 0, .int .i64 0, .int .i64 0, .int .i64 0, .int .i64 0, .slice none 0 0, .string ByteArray.empty, .slice none 0 0, .int .i64 0, .int .i64 0, .int .i64 0, .int .i64 0, .slice none 0 0, .slice none 0 0], .int .i64 0] 8 (World.laidAll_os _ _ _)
      (World.shaped_of_ZipB (by kernel_rfl) (by kernel_rfl)) (by kernel_rfl) (by kernel_rfl) (by kernel_rfl)
      (by rw [MakeChecks.laidMetH_plain _ _ _ (by kernel_rfl)]; exact laidMet_laidAll _ (by kernel_rfl) (by kernel_rfl))) ?_
  intro W base args ds gs before hval0 hW hsz0 hx hsh
  have ht := tab_laid hx
  obtain ⟨mm, hmm⟩ := maxlen_cell hsh
  have hval : ∀ (j : Nat) t v, Tryz.f10.params[j]? = some t → args[j]? = some v → Value.okWide Tryz.prog W .any base t v := hval0
  have hsz : (DataW.weightsEach Tryz.prog (Tryz.f10.params.toList ++ Rows.nodeStepsSpec.plain.varTypes Tryz.prog) (ds ++ gs)).all (· ≤ reachBytes) = true := hsz0
  have hW' := hW
  obtain ⟨p, q, hA0, hV, rfl, hfz, hnd⟩ := hW
  have hA : DataW.TrodAll enc Tryz.prog W 0 (fun _ => true) true Tryz.f10.params.toList args.toList ds p := hA0
  rw [Tryz.params10] at hA hval hsz
  obtain ⟨v0, vs0, d0, ds0, p0, q0, hargs, rfl, rfl, h0, r0⟩ := trodAll_cons hA
  obtain ⟨v1, vs1, d1, ds1, p1, q1, rfl, rfl, rfl, h1, r1⟩ := trodAll_cons r0
  obtain ⟨rfl, rfl, rfl⟩ := trodAll_nil r1
  obtain rfl : args = #[v0, v1] := by cases args; simp_all
  obtain ⟨rfl, rfl⟩ := trodVars_none hV
  have k0 := h0
  have lt0 := trod_lt' h0
  obtain ⟨N0, na0, rfl, nok0⟩ := open_node (hval 0 30 v0 rfl rfl) h0 (weights_at hsz (j := 0) rfl rfl)
  have k1 := h1
  have lt1 := trod_lt' h1
  obtain ⟨a1, rfl, lo1, hi1⟩ := open_int_ Tryz.underlying3 (hval 1 3 v1 rfl rfl) h1
  clear hA0 hval0 hsz0
  refine (LawSteps_walk ht mm hmm N0 na0 nok0 a1 lo1 hi1).mono fun e W' ⟨he, bel⟩ => ?_
  subst he
  exact ⟨_, rfl, _, _, _, [], _, [], hW', trodAll_mk1 (shut_bool Tryz.underlying4 _), (trodAll_cons_mk (Below.trod laidOut (by kernel_rfl) (of_decide_eq_true (by kernel_rfl)) k0 bel lt0) (trodAll_cons_mk (Below.trod laidOut (by kernel_rfl) (of_decide_eq_true (by kernel_rfl)) k1 bel lt1) trodAll_mk0)), rfl, bel.frame _, fun h => by cases h⟩

set_option maxRecDepth 100000 in
set_option maxHeartbeats 128000000 in
theorem over : Rows.nodeStepsRow.holds Tryz.pinned (OpenSpec.ofChange Rows.nodeStepsSpec) :=
  OpenClaim.holds_of_wide 10 Tryz.f10 rfl rfl rfl rfl rfl rfl rfl ⟨rfl, rfl, rfl, rfl, rfl⟩ rfl rfl rfl rfl rfl (by as_aux_lemma => kernel_rfl) Tryz.func10 (by unfold joinedFacts; simp only [Bool.and_eq_true]; and_intros <;> (as_aux_lemma => kernel_rfl))
    (of_decide_eq_true (by as_aux_lemma => kernel_rfl)) (by as_aux_lemma => unfold Func.isWrapper; first | (rw [if_pos (by decide +kernel)]; kernel_rfl) | (rw [if_neg (by decide +kernel)]; exact ⟨rfl, rfl⟩))
    (fun os started H enc _ => lifted os started H enc)

set_option maxRecDepth 100000 in
set_option maxHeartbeats 128000000 in
theorem card : Rows.NodeStepsCardSaid :=
  Claim7.holds_tied_plain_at .later [] [.data, .data, .data, .data, .pinned] true (true, "f5c26ee51ad05b3002db235e77270ee652417e274601f73fa50f5f325a9e5f76") false over (fun _ h => by cases h) (by as_aux_lemma => kernel_rfl) (fun _ h => by cases h) nodeSteps_row_tie rfl ⟨rfl, rfl⟩ (by as_aux_lemma => kernel_rfl) rfl
    (fun f fn hf hfn => by
      obtain rfl : f = 10 := Option.some.inj ((show Tryz.prog.funcNamed "hornbook/hornbooklaw20.NodeSteps" = some 10 by as_aux_lemma => kernel_rfl).symm.trans hf) |>.symm
      obtain rfl : fn = Tryz.f10 := (Option.some.inj (Tryz.func10.symm.trans hfn)).symm
      exact ⟨by as_aux_lemma => kernel_rfl, fun j t ht => by
        rw [Tryz.params10] at ht
        have hm : t ∈ [30, 3] := by simpa using Array.mem_of_getElem? ht
        have hall : ([30, 3].all fun u => !Tryz.prog.wantsStandIn u) = true := by as_aux_lemma => kernel_rfl
        exact (show Tryz.prog.wantsStandIn t = false by simpa using List.all_eq_true.1 hall t hm)⟩)
    (by as_aux_lemma => kernel_rfl)
end Go.Proofs.YtncdjmpdbinanaaGreatDoor.nodeSteps
theorem Go.Proofs.YtncdjmpdbinanaaGreatDoor.nodeSteps_card : Go.Proofs.YtncdjmpdbinanaaGreatDoor.Rows.NodeStepsCardSaid := Go.Proofs.YtncdjmpdbinanaaGreatDoor.nodeSteps.card
