/-
  WHAT IS PROVED HERE: the tied card Rows.ExtendKeepsCardSaid: the law ExtendKeeps returns true at every input that can be read, the listed variables being laid as the program's text lays them, and leaves its arguments as they were.
-/
import Derived.Test.YtncdjmpdbinanaaGreatDoorZLaw18k
import Derived.Test.YtncdjmpdbinanaaGreatDoorZGOpn
import Derived.Test.YtncdjmpdbinanaaGreatDoorZGLif
import Derived.Test.YtncdjmpdbinanaaGreatDoorCards
import Derived.Test.YtncdjmpdbinanaaGreatDoorTie
import Derived.Test.YtncdjmpdbinanaaGreatDoorZGOpN
import Derived.Lib.LaidTab
import Derived.Stop.LaidErr
import Derived.SevenTiedAt
namespace Go.Proofs.YtncdjmpdbinanaaGreatDoor.extendKeeps
open Go.ChangeShapes Go.WideShapes Go.ChangeAt Go.RowKit
set_option linter.unusedVariables false

theorem tab_laid {W : World} (h : laidMetH Tryz.prog Rows.extendKeepsRow.laid W) : Tab W := by
  rw [MakeChecks.laidMetH_plain _ _ _ (by kernel_rfl)] at h
  exact tab_of (Lib.tabIs_of_head (g := 1) (t := 227) (e := 209) (n := 20) (rest := _) (by kernel_rfl) (by kernel_rfl) Tryz.underlying227 Tryz.underlying209 (by kernel_rfl) (by kernel_rfl) (laidMet.tail (laidMet.tail h)))
set_option maxRecDepth 100000 in
theorem lifted (os : Os) (started : os.Started) (H : Type) (enc : TypeId × Value → H) :
    ReturnsInHanded {} Tryz.checked os 9 .any (fun w args => (Rows.extendKeepsSpec.pre enc Tryz.prog Tryz.f9 [] false w args ∧ laidMetH Tryz.prog Rows.extendKeepsRow.laid w) ∧ sizedMet enc Tryz.prog Tryz.f9 (OpenSpec.ofChange Rows.extendKeepsSpec) false w args) (Rows.extendKeepsSpec.post enc Tryz.prog Tryz.f9 false true false false) := by
  refine handed_all (C := Tryz.checked) (X := fun w _ => laidMetH Tryz.prog Rows.extendKeepsRow.laid w) (fun _ _ _ hh h => h.of_heap hh) own started (by kernel_rfl) Tryz.func9
    (ChangeSpec.witness_shaped (enc := enc) (C := Tryz.checked) (os := os) (X := fun w _ => laidMetH Tryz.prog Rows.extendKeepsRow.laid w) false (World.laidAll Tryz.prog os Rows.extendKeepsRow.laid) #[.agg #[.int .i64 0, .int .i64 0, .int .i64 0, .int .i64 0, .int .i64 0, .slice none 0 0, .string ByteArray.empty, .slice none 0 0, .int .i64 0, .int .i64 0, .int .i64 0, .int .i64 0, .slice none 0 0, .slice none 0 0], .agg #[.int .i64 0, .int .i64 0, .int .i64 0, .int .i64 0, .bool false, .int .i64 0, .int .i64 0, .slice none 0 0, .int .i64 0, .string ByteArray.empty, .slice none 0 0], .int .i64 0, .string ByteArray.empty, .int .i64 0] 8 (World.laidAll_os _ _ _)
      (World.shaped_of_ZipB (by kernel_rfl) (by kernel_rfl)) (by kernel_rfl) (by kernel_rfl) (by kernel_rfl)
      (by rw [MakeChecks.laidMetH_plain _ _ _ (by kernel_rfl)]; exact laidMet_laidAll _ (by kernel_rfl) (by kernel_rfl))) ?_
  intro W base args ds gs before hval0 hW hsz0 hx hsh
  have ht := tab_laid hx
  obtain ⟨mm, hmm⟩ := maxlen_cell hsh
  have hval : ∀ (j : Nat) t v, Tryz.f9.params[j]? = some t → args[j]? = some v → Value.okWide Tryz.prog W .any base t v := hval0
  have hsz : (DataW.weightsEach Tryz.prog (Tryz.f9.params.toList ++ Rows.extendKeepsSpec.plain.varTypes Tryz.prog) (ds ++ gs)).all (· ≤ reachBytes) = true := hsz0
  have hW' := hW
  obtain ⟨p, q, hA0, hV, rfl, hfz, hnd⟩ := hW
  have hA : DataW.TrodAll enc Tryz.prog W 0 (fun _ => true) true Tryz.f9.params.toList args.toList ds p := hA0
  rw [Tryz.params9] at hA hval hsz
  obtain ⟨v0, vs0, d0, ds0, p0, q0, hargs, rfl, rfl, h0, r0⟩ := trodAll_cons hA
  obtain ⟨v1, vs1, d1, ds1, p1, q1, rfl, rfl, rfl, h1, r1⟩ := trodAll_cons r0
  obtain ⟨v2, vs2, d2, ds2, p2, q2, rfl, rfl, rfl, h2, r2⟩ := trodAll_cons r1
  obtain ⟨v3, vs3, d3, ds3, p3, q3, rfl, rfl, rfl, h3, r3⟩ := trodAll_cons r2
  obtain ⟨v4, vs4, d4, ds4, p4, q4, rfl, rfl, rfl, h4, r4⟩ := trodAll_cons r3
  obtain ⟨rfl, rfl, rfl⟩ := trodAll_nil r4
  obtain rfl : args = #[v0, v1, v2, v3, v4] := by cases args; simp_all
  obtain ⟨rfl, rfl⟩ := trodVars_none hV
  have k0 := h0
  have lt0 := trod_lt' h0
  obtain ⟨N0, na0, rfl, nok0⟩ := open_node (hval 0 30 v0 rfl rfl) h0 (weights_at hsz (j := 0) rfl rfl)
  have k1 := h1
  have lt1 := trod_lt' h1
  obtain ⟨M1, ma1, rfl, mok1⟩ := open_msg (hval 1 32 v1 rfl rfl) h1 (weights_at hsz (j := 1) rfl rfl)
  have k2 := h2
  have lt2 := trod_lt' h2
  obtain ⟨a2, rfl, lo2, hi2⟩ := open_int_ Tryz.underlying3 (hval 2 3 v2 rfl rfl) h2
  have k3 := h3
  have lt3 := trod_lt' h3
  obtain ⟨s3, rfl, hs3⟩ := open_string_ Tryz.underlying9 (hval 3 9 v3 rfl rfl) h3 (weights_at hsz (j := 3) rfl rfl)
  have k4 := h4
  have lt4 := trod_lt' h4
  obtain ⟨a4, rfl, lo4, hi4⟩ := open_int_ Tryz.underlying3 (hval 4 3 v4 rfl rfl) h4
  clear hA0 hval0 hsz0
  refine (LawKeeps_walk ht mm hmm N0 na0 nok0 M1 ma1 mok1 a2 lo2 hi2 s3 hs3 a4 lo4 hi4).mono fun e W' ⟨he, bel⟩ => ?_
  subst he
  exact ⟨_, rfl, _, _, _, [], _, [], hW', trodAll_mk1 (shut_bool Tryz.underlying4 _), (trodAll_cons_mk (Below.trod laidOut (by kernel_rfl) (of_decide_eq_true (by kernel_rfl)) k0 bel lt0) (trodAll_cons_mk (Below.trod laidOut (by kernel_rfl) (of_decide_eq_true (by kernel_rfl)) k1 bel lt1) (trodAll_cons_mk (Below.trod laidOut (by kernel_rfl) (of_decide_eq_true (by kernel_rfl)) k2 bel lt2) (trodAll_cons_mk (Below.trod laidOut (by kernel_rfl) (of_decide_eq_true (by kernel_rfl)) k3 bel lt3) (trodAll_cons_mk (Below.trod laidOut (by kernel_rfl) (of_decide_eq_true (by kernel_rfl)) k4 bel lt4) trodAll_mk0))))), rfl, bel.frame _, fun h => by cases h⟩

set_option maxRecDepth 100000 in
set_option maxHeartbeats 128000000 in
theorem over : Rows.extendKeepsRow.holds Tryz.pinned (OpenSpec.ofChange Rows.extendKeepsSpec) :=
  OpenClaim.holds_of_wide 9 Tryz.f9 rfl rfl rfl rfl rfl rfl rfl ⟨rfl, rfl, rfl, rfl, rfl⟩ rfl rfl rfl rfl rfl (by as_aux_lemma => kernel_rfl) Tryz.func9 (by unfold joinedFacts; simp only [Bool.and_eq_true]; and_intros <;> (as_aux_lemma => kernel_rfl))
    (of_decide_eq_true (by as_aux_lemma => kernel_rfl)) (by as_aux_lemma => unfold Func.isWrapper; first | (rw [if_pos (by decide +kernel)]; kernel_rfl) | (rw [if_neg (by decide +kernel)]; exact ⟨rfl, rfl⟩))
    (fun os started H enc _ => lifted os started H enc)

set_option maxRecDepth 100000 in
set_option maxHeartbeats 128000000 in
theorem card : Rows.ExtendKeepsCardSaid :=
  Claim7.holds_tied_plain_at .later [] [.data, .data, .data, .data, .pinned] true (true, "f5c26ee51ad05b3002db235e77270ee652417e274601f73fa50f5f325a9e5f76") false over (fun _ h => by cases h) (by as_aux_lemma => kernel_rfl) (fun _ h => by cases h) extendKeeps_row_tie rfl ⟨rfl, rfl⟩ (by as_aux_lemma => kernel_rfl) rfl
    (fun f fn hf hfn => by
      obtain rfl : f = 9 := Option.some.inj ((show Tryz.prog.funcNamed "hornbook/hornbooklaw18.ExtendKeeps" = some 9 by as_aux_lemma => kernel_rfl).symm.trans hf) |>.symm
      obtain rfl : fn = Tryz.f9 := (Option.some.inj (Tryz.func9.symm.trans hfn)).symm
      exact ⟨by as_aux_lemma => kernel_rfl, fun j t ht => by
        rw [Tryz.params9] at ht
        have hm : t ∈ [30, 32, 3, 9, 3] := by simpa using Array.mem_of_getElem? ht
        have hall : ([30, 32, 3, 9, 3].all fun u => !Tryz.prog.wantsStandIn u) = true := by as_aux_lemma => kernel_rfl
        exact (show Tryz.prog.wantsStandIn t = false by simpa using List.all_eq_true.1 hall t hm)⟩)
    (by as_aux_lemma => kernel_rfl)
end Go.Proofs.YtncdjmpdbinanaaGreatDoor.extendKeeps
theorem Go.Proofs.YtncdjmpdbinanaaGreatDoor.extendKeeps_card : Go.Proofs.YtncdjmpdbinanaaGreatDoor.Rows.ExtendKeepsCardSaid := Go.Proofs.YtncdjmpdbinanaaGreatDoor.extendKeeps.card
