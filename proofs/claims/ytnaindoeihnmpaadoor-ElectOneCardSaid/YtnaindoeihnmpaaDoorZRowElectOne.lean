/-
  WHAT IS PROVED HERE: the tied card Rows.ElectOneCardSaid: the law ElectOne returns true at every input that can be read, the listed variables being laid as the program's text lays them, and leaves its arguments as they were.
-/
import Derived.Test.YtnaindoeihnmpaaDoorZLaw17d
import Derived.Test.YtnaindoeihnmpaaDoorZOpen
import Derived.Test.YtnaindoeihnmpaaDoorZLift
import Derived.Test.YtnaindoeihnmpaaDoorCards
import Derived.Test.YtnaindoeihnmpaaDoorTie
import Derived.Test.YtnaindoeihnmpaaDoorZLiftM
import Derived.Lib.LaidTab
import Derived.Stop.LaidErr
import Derived.SevenTiedAt
namespace Go.Proofs.YtnaindoeihnmpaaDoor.electOne
open Go.ChangeShapes Go.WideShapes Go.ChangeAt Go.RowKit
set_option linter.unusedVariables false

theorem tab_laid {W : World} (h : laidMetH Tryd.prog Rows.electOneRow.laid W) : Tab W := by
  rw [MakeChecks.laidMetH_plain _ _ _ (by kernel_rfl)] at h
  exact tab_of (Lib.tabIs_of_head (g := 0) (t := 140) (e := 129) (n := 20) (rest := _) (by kernel_rfl) (by kernel_rfl) Tryd.underlying140 Tryd.underlying129 (by kernel_rfl) (by kernel_rfl) (laidMet.tail (laidMet.tail h)))
set_option maxRecDepth 100000 in
theorem lifted (os : Os) (started : os.Started) (H : Type) (enc : TypeId × Value → H) :
    ReturnsInHanded {} Tryd.checked os 6 .any (fun w args => (Rows.electOneSpec.pre enc Tryd.prog Tryd.f6 [] false w args ∧ laidMetH Tryd.prog Rows.electOneRow.laid w) ∧ sizedMet enc Tryd.prog Tryd.f6 (OpenSpec.ofChange Rows.electOneSpec) false w args) (Rows.electOneSpec.post enc Tryd.prog Tryd.f6 false true false false) := by
  refine handed_all (C := Tryd.checked) (X := fun w _ => laidMetH Tryd.prog Rows.electOneRow.laid w) (fun _ _ _ hh h => h.of_heap hh) own started (by kernel_rfl) Tryd.func6
    (ChangeSpec.witness_shaped (enc := enc) (C := Tryd.checked) (os := os) (X := fun w _ => laidMetH Tryd.prog Rows.electOneRow.laid w) false (World.laidAll Tryd.prog os Rows.electOneRow.laid) #[.slice none 0 0, .int .i64 0, .slice none 0 0] 8 (World.laidAll_os _ _ _)
      (World.shaped_of_ZipB (by kernel_rfl) (by kernel_rfl)) (by kernel_rfl) (by kernel_rfl) (by kernel_rfl)
      (by rw [MakeChecks.laidMetH_plain _ _ _ (by kernel_rfl)]; exact laidMet_laidAll _ (by kernel_rfl) (by kernel_rfl))) ?_
  intro W base args ds gs before hval0 hW hsz0 hx hsh
  have ht := tab_laid hx
  obtain ⟨mm, hmm⟩ := maxlen_cell hsh
  have hval : ∀ (j : Nat) t v, Tryd.f6.params[j]? = some t → args[j]? = some v → Value.okWide Tryd.prog W .any base t v := hval0
  have hsz : (DataW.weightsEach Tryd.prog (Tryd.f6.params.toList ++ Rows.electOneSpec.plain.varTypes Tryd.prog) (ds ++ gs)).all (· ≤ reachBytes) = true := hsz0
  have hW' := hW
  obtain ⟨p, q, hA0, hV, rfl, hfz, hnd⟩ := hW
  have hA : DataW.TrodAll enc Tryd.prog W 0 (fun _ => true) true Tryd.f6.params.toList args.toList ds p := hA0
  rw [Tryd.params6] at hA hval hsz
  obtain ⟨v0, vs0, d0, ds0, p0, q0, hargs, rfl, rfl, h0, r0⟩ := trodAll_cons hA
  obtain ⟨v1, vs1, d1, ds1, p1, q1, rfl, rfl, rfl, h1, r1⟩ := trodAll_cons r0
  obtain ⟨v2, vs2, d2, ds2, p2, q2, rfl, rfl, rfl, h2, r2⟩ := trodAll_cons r1
  obtain ⟨rfl, rfl, rfl⟩ := trodAll_nil r2
  obtain rfl : args = #[v0, v1, v2] := by cases args; simp_all
  obtain ⟨rfl, rfl⟩ := trodVars_none hV
  have k0 := h0
  have lt0 := trod_lt' h0
  obtain ⟨a0, len0, cap0, z0, rfl, i0, lc0, hs0, b0⟩ := open_intsl Tryd.underlying25 Tryd.underlying3 (by kernel_rfl) (by kernel_rfl) (hval 0 25 v0 rfl rfl) h0 (weights_at hsz (j := 0) rfl rfl)
  have k1 := h1
  have lt1 := trod_lt' h1
  obtain ⟨a1, rfl, lo1, hi1⟩ := open_int_ Tryd.underlying3 (hval 1 3 v1 rfl rfl) h1
  have k2 := h2
  have lt2 := trod_lt' h2
  obtain ⟨a2, len2, cap2, z2, rfl, i2, lc2, hs2, b2⟩ := open_intsl Tryd.underlying25 Tryd.underlying3 (by kernel_rfl) (by kernel_rfl) (hval 2 25 v2 rfl rfl) h2 (weights_at hsz (j := 2) rfl rfl)
  clear hA0 hval0 hsz0
  refine (LawOne_walk ht mm hmm a0 len0 cap0 z0 i0 lc0 hs0 b0 a1 lo1 hi1 a2 len2 cap2 z2 i2 lc2 hs2 b2).mono fun e W' ⟨he, bel⟩ => ?_
  subst he
  exact ⟨_, rfl, _, _, _, [], _, [], hW', trodAll_mk1 (shut_bool Tryd.underlying4 _), (trodAll_cons_mk (Below.trod laidOut (by kernel_rfl) (of_decide_eq_true (by kernel_rfl)) k0 bel lt0) (trodAll_cons_mk (Below.trod laidOut (by kernel_rfl) (of_decide_eq_true (by kernel_rfl)) k1 bel lt1) (trodAll_cons_mk (Below.trod laidOut (by kernel_rfl) (of_decide_eq_true (by kernel_rfl)) k2 bel lt2) trodAll_mk0))), rfl, bel.frame _, fun h => by cases h⟩

theorem over : Rows.electOneRow.holds Tryd.pinned (OpenSpec.ofChange Rows.electOneSpec) :=
  OpenClaim.holds_of_wide 6 Tryd.f6 rfl rfl rfl rfl rfl rfl rfl ⟨rfl, rfl, rfl, rfl, rfl⟩ rfl rfl rfl rfl rfl (by kernel_rfl) Tryd.func6 (by kernel_rfl)
    (of_decide_eq_true (by kernel_rfl)) (by unfold Func.isWrapper; first | (rw [if_pos (by decide +kernel)]; kernel_rfl) | (rw [if_neg (by decide +kernel)]; exact ⟨rfl, rfl⟩))
    (fun os started H enc _ => lifted os started H enc)

set_option maxRecDepth 100000 in
theorem card : Rows.ElectOneCardSaid :=
  Claim7.holds_tied_plain_at .later [] [.data, .data, .data, .data, .pinned] true (true, "f3cf4301636d79b27939e864b59291ce28e89a128376a2faaac03f2401c557a3") false over (fun _ h => by cases h) (by kernel_rfl) (fun _ h => by cases h) electOne_row_tie rfl ⟨rfl, rfl⟩ (by kernel_rfl) rfl
    (fun f fn hf hfn => by
      obtain rfl : f = 6 := Option.some.inj ((show Tryd.prog.funcNamed "hornbook/hornbooklaw17.ElectOne" = some 6 by kernel_rfl).symm.trans hf) |>.symm
      obtain rfl : fn = Tryd.f6 := (Option.some.inj (Tryd.func6.symm.trans hfn)).symm
      exact ⟨by kernel_rfl, fun j t ht => by
        rw [Tryd.params6] at ht
        have hm : t ∈ [25, 3, 25] := by simpa using Array.mem_of_getElem? ht
        have hall : ([25, 3, 25].all fun u => !Tryd.prog.wantsStandIn u) = true := by kernel_rfl
        exact (show Tryd.prog.wantsStandIn t = false by simpa using List.all_eq_true.1 hall t hm)⟩)
    (by kernel_rfl)
end Go.Proofs.YtnaindoeihnmpaaDoor.electOne
theorem Go.Proofs.YtnaindoeihnmpaaDoor.electOne_card : Go.Proofs.YtnaindoeihnmpaaDoor.Rows.ElectOneCardSaid := Go.Proofs.YtnaindoeihnmpaaDoor.electOne.card
