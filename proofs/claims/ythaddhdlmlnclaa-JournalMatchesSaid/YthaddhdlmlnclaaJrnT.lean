/-
  WHAT IS PROVED HERE: what journal.Merge and the reference's Merge hand back; the walk of the law JournalMerges. Conditions: slices of at most 2^42 records.
-/
import Derived.Test.YthaddhdlmlnclaaJrn7
import Derived.Test.YthaddhdlmlnclaaJrn8
import Derived.Test.YthaddhdlmlnclaaJrn9
import Derived.Test.YthaddhdlmlnclaaJrnS
namespace Go.Proofs.Ythaddhdlmlnclaa
open Go.RowKit

theorem merge_len (l : Lg) (at' term : Int) (more : List Rec) : (mergeJ l at' term more).l.rs.length ≤ 200 := by
  unfold mergeJ
  split
  · rename_i hr
    have hr1 : rightJ l = true := by revert hr; cases rightJ l <;> simp
    have hb := right_bounds hr1
    split
    · exact hb.2.2.2.2.1
    · split
      · exact hb.2.2.2.2.1
      · dsimp only
        split
        · simp [zeroL]
        · split
          · dsimp only; omega
          · simp [zeroL]
  · simp [zeroL]
theorem Merge_any (l : Lg) (at' term : Int) (more : List Rec) (A : Option Addr) (n cap : Nat) (A' : Option Addr) (n' cap' : Nat) (w : World) {B : Nat} (hB : B ≤ w.heap.size) (hm : n ≤ 4398046511103) (hm' : n' ≤ 4398046511103) (hcap : n ≤ cap) (hcap' : n' ≤ cap') (h : Recs w B A n l.rs) (h' : Recs w B A' n' more) :
    Calls Try.prog 26 #[logV l A n cap, .int .i64 at', .int .i64 term, .slice A' n' cap'] w (RetMg B w (mergeJ l at' term more)) := by
  by_cases g : (rightJ l && rightJ ⟨at', term, more⟩) = true ∧ ¬ (l.base ≤ at' ∧ termJ l at' ≠ some term)
  · have hr : rightJ l = true := by have := g.1; revert this; cases rightJ l <;> simp
    have hr2 : rightJ ⟨at', term, more⟩ = true := by have := g.1; rw [hr] at this; simpa using this
    by_cases gb : at' < l.base
    · exact Merge_fits1 l at' term more A n cap A' n' cap' w hB hcap hcap' h h' hr hr2 g.2 gb
    · exact Merge_fits2 l at' term more A n cap A' n' cap' w hB hcap hcap' h h' hr hr2 g.2 gb
  · exact Merge_one l at' term more A n cap A' n' cap' w hB hm hm' hcap hcap' h h' g
theorem refMerge_any (l : Lg) (at' term : Int) (more : List Rec) (A : Option Addr) (n cap : Nat) (A' : Option Addr) (n' cap' : Nat) (w : World) {B : Nat} (hB : B ≤ w.heap.size) (hm : n ≤ 4398046511103) (hm' : n' ≤ 4398046511103) (hcap : n ≤ cap) (hcap' : n' ≤ cap') (hmax : cap ≤ maxLen) (h : Recs w B A n l.rs) (h' : Recs w B A' n' more) :
    Calls Try.prog 27 #[logV l A n cap, .int .i64 at', .int .i64 term, .slice A' n' cap'] w (RetMg B w (mergeJ l at' term more)) := by
  by_cases g : (rightJ l && rightJ ⟨at', term, more⟩) = true ∧ ¬ (l.base ≤ at' ∧ termJ l at' ≠ some term)
  · have hr : rightJ l = true := by have := g.1; revert this; cases rightJ l <;> simp
    have hr2 : rightJ ⟨at', term, more⟩ = true := by have := g.1; rw [hr] at this; simpa using this
    by_cases g1 : at' + n' < l.base
    · exact refMerge_yes1 l at' term more A n cap A' n' cap' w hB hm hm' hcap hcap' hmax h h' hr hr2 g1
    by_cases g2 : at' < l.base
    · exact refMerge_yes2 l at' term more A n cap A' n' cap' w hB hm hm' hcap hcap' hmax h h' hr hr2 ⟨g2, by omega⟩
    · exact refMerge_yes3 l at' term more A n cap A' n' cap' w hB hm hm' hcap hcap' hmax h h' hr hr2 (Classical.byContradiction fun e => g.2 ⟨by omega, e⟩)
  · exact refMerge_no l at' term more A n cap A' n' cap' w hB hm hm' hcap hcap' hmax h h' g
set_option maxHeartbeats 1600000 in
theorem LawMerges_any (l : Lg) (at' term : Int) (more : List Rec) (A : Option Addr) (n cap : Nat) (A' : Option Addr) (n' cap' : Nat) (w : World) {B : Nat} (hB : B ≤ w.heap.size) (hm : n ≤ 4398046511103) (hm' : n' ≤ 4398046511103) (hcap : n ≤ cap) (hcap' : n' ≤ cap') (hmax : cap ≤ maxLen) (h : Recs w B A n l.rs) (h' : Recs w B A' n' more) :
    Calls Try.prog 5 #[logV l A n cap, .int .i64 at', .int .i64 term, .slice A' n' cap'] w fun e w' => e = .returned (.bool true) ∧ Below w.heap.size w w' := by
  have hX := hid_mk (Blk.new w 24 #[.int .i64 l.base, .int .i64 l.bt, .slice A n cap])
  have hml := merge_len l at' term more
  obtain ⟨m, hmg⟩ : ∃ m, mergeJ l at' term more = m := ⟨_, rfl⟩
  rw [hmg] at hml
  replace hmg := hid_mk hmg
  obtain ⟨ml, mn, mf, me⟩ := m
  dsimp only at hml
  rw [logV_eq]
  refine calls_of_wpQ Try.func5 rfl ?_
  intro Q hQ
  simp only [Try.ntmps5, List.size_toArray, List.length_cons, List.length_nil, Nat.reduceAdd, Nat.reduceSub, Array.replicate_succ, Array.replicate_zero, List.push_toArray, List.append_toArray, List.nil_append, List.cons_append]
  go_wp2_with fail
  try rw [← logV_eq]
  refine (Merge_any l at' term more A n cap A' n' cap' _ (B := B) (by first | omega | (simp; omega)) hm hm' hcap hcap' (h.to (by go_grown)) (h'.to (by go_grown))).mono ?_
  rw [hmg.out]
  rintro e w1 ⟨A1, n1, c1, rfl, hRa, h11, h12, hb⟩
  have q1 := (after (w := w) hb (by go_grown)).1
  replace hX := hid_mk (hX.out.keep (after hb (by go_grown)).1)
  replace hRa := hid_mk hRa
  have hlena := hid_mk hRa.out.len
  have hla : n1 ≤ 200 := by have := hlena.out; dsimp only at this; omega
  unfold logV
  dsimp only
  have hs1 := hb.size; try simp only [World.size_alloc] at hs1; clear hb
  have hA := hid_mk (Blk.new w1 24 #[.int .i64 ml.base, .int .i64 ml.bt, .slice A1 n1 c1])
  obtain ⟨hgx, x0, x1, x2⟩ := blk3 hX.out
  go_wp2_with fail
  try rw [← logV_eq]
  refine (refMerge_any l at' term more A n cap A' n' cap' _ (B := B) (by first | omega | (simp; omega)) hm hm' hcap hcap' hmax (h.to (by go_grown)) (h'.to (by go_grown))).mono ?_
  rw [hmg.out]
  rintro e w2 ⟨A2, n2, c2, rfl, hRb, h21, h22, hb⟩
  have q2 := (after (w := w) hb (by go_grown)).1
  replace hX := hid_mk (hX.out.keep (after hb (by go_grown)).1)
  replace hA := hid_mk (hA.out.keep (after hb (by go_grown)).1)
  replace hRa := hid_mk (hRa.out.to (after hb (by go_grown)).1)
  clear hgx x0 x1 x2
  obtain ⟨hgx, x0, x1, x2⟩ := blk3 hX.out
  replace hRb := hid_mk hRb
  have hlenb := hid_mk hRb.out.len
  have hlb : n2 ≤ 200 := by have := hlenb.out; dsimp only at this; omega
  unfold logV
  dsimp only
  have hs2 := hb.size; try simp only [World.size_alloc] at hs2; clear hb
  have hBb := hid_mk (Blk.new w2 24 #[.int .i64 ml.base, .int .i64 ml.bt, .slice A2 n2 c2])
  go_wp2_with fail
  refine (alive_any _).mono ?_
  rintro e w3 ⟨rfl, hb⟩
  have q3 := (after (w := w) hb (by go_grown)).1
  replace hX := hid_mk (hX.out.keep (after hb (by go_grown)).1)
  replace hA := hid_mk (hA.out.keep (after hb (by go_grown)).1)
  replace hBb := hid_mk (hBb.out.keep (after hb (by go_grown)).1)
  replace hRa := hid_mk (hRa.out.to (after hb (by go_grown)).1)
  replace hRb := hid_mk (hRb.out.to (after hb (by go_grown)).1)
  clear hgx x0 x1 x2
  obtain ⟨hgx, x0, x1, x2⟩ := blk3 hX.out
  have hs3 := hb.size; try simp only [World.size_alloc] at hs3; clear hb
  obtain ⟨hga, a0, a1, a2⟩ := blk3 hA.out
  obtain ⟨hgb, b0, b1, b2⟩ := blk3 hBb.out
  go_wp2_with fail
  try rw [← logV_eq]
  try rw [← logV_eq]
  refine (Like_any ml ml A1 n1 c1 A2 n2 c2 _ (by omega) (by omega) (hRa.out.to (by go_grown)) (hRb.out.to (by go_grown))).mono ?_
  rw [likeJ_self]
  rintro e w4 ⟨rfl, hb⟩
  have q4 := (after (w := w) hb (by go_grown)).1
  replace hX := hid_mk (hX.out.keep (after hb (by go_grown)).1)
  replace hA := hid_mk (hA.out.keep (after hb (by go_grown)).1)
  replace hBb := hid_mk (hBb.out.keep (after hb (by go_grown)).1)
  replace hRa := hid_mk (hRa.out.to (after hb (by go_grown)).1)
  replace hRb := hid_mk (hRb.out.to (after hb (by go_grown)).1)
  clear hgx x0 x1 x2 hga a0 a1 a2 hgb b0 b1 b2
  obtain ⟨hgx, x0, x1, x2⟩ := blk3 hX.out
  obtain ⟨hga, a0, a1, a2⟩ := blk3 hA.out
  obtain ⟨hgb, b0, b1, b2⟩ := blk3 hBb.out
  have hs4 := hb.size; try simp only [World.size_alloc] at hs4; clear hb
  go_wp2
  refine ends_ret hQ (results_tmp rfl _ _ _) rfl ?_
  exact ⟨ret_bool (by simp), q4⟩
theorem LawMerges_walk (l0 : Lg) (a0 : Option Addr) (len0 cap0 : Nat) {w : World} (i0 : Recs w w.heap.size a0 len0 l0.rs) (lc0 : len0 ≤ cap0) (hs0 : cap0 * 32 ≤ 140737488351232)
    (a1 : Int) (_lo1 : -9223372036854775808 ≤ a1) (_hi1 : a1 ≤ 9223372036854775807) (a2 : Int) (_lo2 : -9223372036854775808 ≤ a2) (_hi2 : a2 ≤ 9223372036854775807)
    (a3 : Option Addr) (len3 cap3 : Nat) (rs3 : List Rec) (i3 : Recs w w.heap.size a3 len3 rs3) (lc3 : len3 ≤ cap3) (hs3 : cap3 * 32 ≤ 140737488351232) :
    Calls Try.prog 5 #[logV l0 a0 len0 cap0, .int .i64 a1, .int .i64 a2, .slice a3 len3 cap3] w fun e w' => e = .returned (.bool true) ∧ Below w.heap.size w w' :=
  LawMerges_any _ _ _ _ _ _ _ _ _ _ _ (Nat.le_refl _) (by omega) (by omega) lc0 lc3 (by unfold maxLen; omega) i0 i3
end Go.Proofs.Ythaddhdlmlnclaa
