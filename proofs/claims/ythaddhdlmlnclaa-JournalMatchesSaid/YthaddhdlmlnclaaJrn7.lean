/-
  WHAT IS PROVED HERE: what journal.Merge hands back where the records do not fit. Conditions: slices of at most 2^41 records.
-/
import Derived.Test.YthaddhdlmlnclaaJrnM
namespace Go.Proofs.Ythaddhdlmlnclaa
open Go.RowKit

set_option maxHeartbeats 6400000 in
theorem Merge_one (l : Lg) (at' term : Int) (more : List Rec) (A : Option Addr) (n cap : Nat) (A' : Option Addr) (n' cap' : Nat) (w : World) {B : Nat} (hB : B ≤ w.heap.size) (hm : n ≤ 4398046511103) (hm' : n' ≤ 4398046511103) (hcap : n ≤ cap) (_hcap' : n' ≤ cap') (h : Recs w B A n l.rs) (h' : Recs w B A' n' more) (ga0 : ¬ ((rightJ l && rightJ ⟨at', term, more⟩) = true ∧ ¬ (l.base ≤ at' ∧ termJ l at' ≠ some term))) :
    Calls Try.prog 26 #[logV l A n cap, .int .i64 at', .int .i64 term, .slice A' n' cap'] w (RetMg B w (mergeJ l at' term more)) := by
  have hlen := hid_mk h.len
  have hlen' := hid_mk h'.len
  have hX := hid_mk ((Blk.new w 24 #[.int .i64 l.base, .int .i64 l.bt, .slice A n cap]).alloc (.cells #[.int .i64 0, .int .i64 0, .slice none 0 0] 24))
  have hY := hid_mk (Blk.new (w.alloc (.cells #[.int .i64 l.base, .int .i64 l.bt, .slice A n cap] 24)) 24 #[.int .i64 0, .int .i64 0, .slice none 0 0])
  cases hr : rightJ l
  · have hz : Hid (mergeJ l at' term more = ⟨zeroL, 0, false, 1⟩) := by unfold Hid mergeJ; rw [hr]; rfl
    replace hr := hid_mk hr
    rw [hz.out, logV_eq]
    go_enter Try.func26, Try.ntmps26
    go_wp2_with fail
    try rw [← logV_eq]
    refine (Right_any l _ _ _ _ (by omega) (h.to (by go_grown))).mono ?_
    rw [hr.out]
    rintro e w1 ⟨rfl, hb⟩
    have q1 := (after (w := w) hb (by go_grown)).1
    replace hX := hid_mk (hX.out.keep (after hb (by go_grown)).1)
    replace hY := hid_mk (hY.out.keep (after hb (by go_grown)).1)
    obtain ⟨hgy, y0, y1, y2, e0, e1, e2⟩ := blk3f hY.out
    rw [World.size_alloc] at hgy y0 y1 y2 e0 e1 e2
    have hs1 := hb.size; try simp only [World.size_alloc] at hs1; clear hb
    go_wp2
    refine bodyPost_ret (v := .tuple #[.agg #[.int .i64 0, .int .i64 0, .slice none 0 0], .int .i64 0, .bool false, .int .i64 1]) (by simp [results, Try.results26, go_sem, y0, y1, y2]) rfl ?_
    exact ⟨none, 0, 0, rfl, Reads.none_, Nat.le_refl _, by unfold maxLen; omega, set3_below _ _ _ q1 (by simp)⟩
  have hbd := right_bounds hr
  cases hr2 : rightJ ⟨at', term, more⟩
  · have hz : Hid (mergeJ l at' term more = ⟨zeroL, 0, false, 1⟩) := by unfold Hid mergeJ; rw [hr, hr2]; rfl
    replace hr := hid_mk hr
    replace hr2 := hid_mk hr2
    rw [hz.out, logV_eq]
    go_enter Try.func26, Try.ntmps26
    go_wp2_with fail
    try rw [← logV_eq]
    refine (Right_any l _ _ _ _ (by omega) (h.to (by go_grown))).mono ?_
    rw [hr.out]
    rintro e w1 ⟨rfl, hb⟩
    have q1 := (after (w := w) hb (by go_grown)).1
    replace hX := hid_mk (hX.out.keep (after hb (by go_grown)).1)
    replace hY := hid_mk (hY.out.keep (after hb (by go_grown)).1)
    have hs1 := hb.size; try simp only [World.size_alloc] at hs1; clear hb
    go_wp2_with fail
    rw [logV_mk at' term more]
    refine (Right_any ⟨at', term, more⟩ _ _ _ _ (by omega) (h'.to (by go_grown))).mono ?_
    rw [hr2.out]
    rintro e w2 ⟨rfl, hb⟩
    have q2 := (after (w := w) hb (by go_grown)).1
    replace hX := hid_mk (hX.out.keep (after hb (by go_grown)).1)
    replace hY := hid_mk (hY.out.keep (after hb (by go_grown)).1)
    obtain ⟨hgy, y0, y1, y2, e0, e1, e2⟩ := blk3f hY.out
    rw [World.size_alloc] at hgy y0 y1 y2 e0 e1 e2
    have hs2 := hb.size; try simp only [World.size_alloc] at hs2; clear hb
    go_wp2
    refine bodyPost_ret (v := .tuple #[.agg #[.int .i64 0, .int .i64 0, .slice none 0 0], .int .i64 0, .bool false, .int .i64 1]) (by simp [results, Try.results26, go_sem, y0, y1, y2]) rfl ?_
    exact ⟨none, 0, 0, rfl, Reads.none_, Nat.le_refl _, by unfold maxLen; omega, set3_below _ _ _ q2 (by simp)⟩
  have hbd2 := right_bounds hr2
  dsimp only at hbd2
  have hln := hlen.out
  have hln' := hlen'.out
  have hn200 : n ≤ 200 := by omega
  have hn200' : n' ≤ 200 := by omega
  have hwrap : IntKind.i64.wrap (at' - 1) = at' - 1 := IntWalk.i64_in _ (by omega)
  have hV := fun (W : World) => Blk.new W 52 #[.int .i64 l.base, .int .i64 l.bt, .slice A n cap]
  replace hV := hid_mk hV
  by_cases ga : l.base ≤ at' ∧ termJ l at' ≠ some term
  case neg => exact absurd ⟨by rw [hr, hr2]; rfl, ga⟩ ga0
  clear ga0
  · have hz : Hid (mergeJ l at' term more = ⟨l, min (lastJ l) (at' - 1), false, 0⟩) := by unfold Hid mergeJ; rw [hr, hr2]; simp [ga]
    obtain ⟨ga1, ga2⟩ := ga
    cases hta : termJ l at' with
    | none =>
      replace hta := hid_mk hta
      clear ga2
      replace hr := hid_mk hr
      replace hr2 := hid_mk hr2
      rw [hz.out, logV_eq]
      go_enter Try.func26, Try.ntmps26
      go_wp2_with fail
      try rw [← logV_eq]
      refine (Right_any l _ _ _ _ (by omega) (h.to (by go_grown))).mono ?_
      rw [hr.out]
      rintro e w1 ⟨rfl, hb⟩
      have q1 := (after (w := w) hb (by go_grown)).1
      replace hX := hid_mk (hX.out.keep (after hb (by go_grown)).1)
      replace hY := hid_mk (hY.out.keep (after hb (by go_grown)).1)
      have hs1 := hb.size; try simp only [World.size_alloc] at hs1; clear hb
      go_wp2_with fail
      rw [logV_mk at' term more]
      refine (Right_any ⟨at', term, more⟩ _ _ _ _ (by omega) (h'.to (by go_grown))).mono ?_
      rw [hr2.out]
      rintro e w2 ⟨rfl, hb⟩
      have q2 := (after (w := w) hb (by go_grown)).1
      replace hX := hid_mk (hX.out.keep (after hb (by go_grown)).1)
      replace hY := hid_mk (hY.out.keep (after hb (by go_grown)).1)
      obtain ⟨hgx, x0, x1, x2⟩ := blk3 hX.out
      replace hV := hid_mk (hV.out w2)
      replace hX := hid_mk (hX.out.alloc (.cells #[.int .i64 l.base, .int .i64 l.bt, .slice A n cap] 52))
      replace hY := hid_mk (hY.out.alloc (.cells #[.int .i64 l.base, .int .i64 l.bt, .slice A n cap] 52))
      have hs2 := hb.size; try simp only [World.size_alloc] at hs2; clear hb
      have hne1 : ¬ w2.heap.size = w.heap.size + 1 := by omega
      have hne2 : ¬ w.heap.size + 1 = w2.heap.size := by omega
      have hne3 : ¬ w2.heap.size = w.heap.size := by omega
      have hne4 : ¬ w.heap.size = w2.heap.size := by omega
      go_wp2_with fail
      try rw [← logV_eq]
      refine (vterm_any l at' A n cap _ (by omega) (h.to (by go_grown)) hbd.1 hbd.2.1).mono ?_
      rw [hta.out]
      rintro e w3 ⟨rfl, hb⟩
      have q3 := (after (w := w) hb (by go_grown)).1
      replace hX := hid_mk (hX.out.keep (after hb (by go_grown)).1)
      replace hY := hid_mk (hY.out.keep (after hb (by go_grown)).1)
      replace hV := hid_mk (hV.out.keep (after hb (by go_grown)).1)
      clear hgx x0 x1 x2
      obtain ⟨hgx, x0, x1, x2⟩ := blk3 hX.out
      obtain ⟨hgv, v0, v1, v2⟩ := blk3 hV.out
      obtain ⟨hgy, y0, y1, y2, e0, e1, e2⟩ := blk3f hY.out
      rw [World.size_alloc] at hgy y0 y1 y2 e0 e1 e2
      have hs3 := hb.size; try simp only [World.size_alloc] at hs3; clear hb
      go_wp2_with fail
      go_region_held3 (fun w' => w'.cell? ⟨w.heap.size, 0, none⟩ = some (.int .i64 l.base) ∧ w'.cell? ⟨w.heap.size, 1, none⟩ = some (.int .i64 l.bt) ∧ w'.cell? ⟨w.heap.size, 2, none⟩ = some (.slice A n cap) ∧ w'.cell? ⟨w2.heap.size, 0, none⟩ = some (.int .i64 l.base) ∧ w'.cell? ⟨w2.heap.size, 1, none⟩ = some (.int .i64 l.bt) ∧ w'.cell? ⟨w2.heap.size, 2, none⟩ = some (.slice A n cap)) ((first | (refine ⟨?_, ?_, ?_, ?_, ?_, ?_⟩ <;> assumption) | go_keep)) (first | (go_at_call 33; refine (own_any l A n cap _ (B := B) (by first | omega | (simp; omega)) (by omega) hcap (h.to (by go_grown))).mono ?_; rintro e w4 ⟨A3, n3, c3, rfl, hR3, h31, h32, hb⟩; have q4 := (after (w := w) hb (by go_grown)).1; replace hX := hid_mk (hX.out.keep (after hb (by go_grown)).1); replace hY := hid_mk (hY.out.keep (after hb (by go_grown)).1); replace hV := hid_mk (hV.out.keep (after hb (by go_grown)).1); clear hgx x0 x1 x2 hgy y0 y1 y2 e0 e1 e2 hgv v0 v1 v2; obtain ⟨hgx, x0, x1, x2⟩ := blk3 hX.out; obtain ⟨hgv, v0, v1, v2⟩ := blk3 hV.out; obtain ⟨hgy, y0, y1, y2, e0, e1, e2⟩ := blk3f hY.out; replace hR3 := hid_mk hR3; unfold logV; rw [World.size_alloc] at hgy y0 y1 y2 e0 e1 e2; have hs4 := hb.size; clear hb) | (go_at_call 29; refine (vlast_any l A n cap _ (by omega) hlen.out hbd.1 hbd.2.1).mono ?_; rintro e w5 ⟨rfl, hb⟩; have q5 := (after (w := w) hb (by go_grown)).1; try (replace hR3 := hid_mk (hR3.out.to (after hb (by go_grown)).1)); replace hX := hid_mk (hX.out.keep (after hb (by go_grown)).1); replace hY := hid_mk (hY.out.keep (after hb (by go_grown)).1); replace hV := hid_mk (hV.out.keep (after hb (by go_grown)).1); clear hgx x0 x1 x2 hgy y0 y1 y2 e0 e1 e2 hgv v0 v1 v2; obtain ⟨hgx, x0, x1, x2⟩ := blk3 hX.out; obtain ⟨hgv, v0, v1, v2⟩ := blk3 hV.out; obtain ⟨hgy, y0, y1, y2, e0, e1, e2⟩ := blk3f hY.out; rw [World.size_alloc] at hgy y0 y1 y2 e0 e1 e2; have hs5 := hb.size; clear hb))
      all_goals
        go_wp2
        have hY2 := hY.out
        rw [World.size_alloc] at hY2
        refine bodyPost_ret (v := .tuple #[.agg #[.int .i64 l.base, .int .i64 l.bt, .slice A3 n3 c3], .int .i64 (min (lastJ l) (at' - 1)), .bool false, .int .i64 0]) (by simp [results, Try.results26, go_sem, y0, y1, y2]) rfl ?_
        exact ⟨A3, n3, c3, rfl, set3_reads hY2 _ _ _ (by omega) (by decide) hR3.out, h31, h32, set3_below _ _ _ q5 (by simp)⟩
    | some t0 =>
      have hne0 : t0 ≠ term := by rw [hta] at ga2; intro e; exact ga2 (by rw [e])
      have hne0' : (t0 != term) = true := by simpa using hne0
      replace hne0 := hid_mk hne0
      replace hta := hid_mk hta
      clear ga2
      replace hr := hid_mk hr
      replace hr2 := hid_mk hr2
      rw [hz.out, logV_eq]
      go_enter Try.func26, Try.ntmps26
      go_wp2_with fail
      try rw [← logV_eq]
      refine (Right_any l _ _ _ _ (by omega) (h.to (by go_grown))).mono ?_
      rw [hr.out]
      rintro e w1 ⟨rfl, hb⟩
      have q1 := (after (w := w) hb (by go_grown)).1
      replace hX := hid_mk (hX.out.keep (after hb (by go_grown)).1)
      replace hY := hid_mk (hY.out.keep (after hb (by go_grown)).1)
      have hs1 := hb.size; try simp only [World.size_alloc] at hs1; clear hb
      go_wp2_with fail
      rw [logV_mk at' term more]
      refine (Right_any ⟨at', term, more⟩ _ _ _ _ (by omega) (h'.to (by go_grown))).mono ?_
      rw [hr2.out]
      rintro e w2 ⟨rfl, hb⟩
      have q2 := (after (w := w) hb (by go_grown)).1
      replace hX := hid_mk (hX.out.keep (after hb (by go_grown)).1)
      replace hY := hid_mk (hY.out.keep (after hb (by go_grown)).1)
      obtain ⟨hgx, x0, x1, x2⟩ := blk3 hX.out
      replace hV := hid_mk (hV.out w2)
      replace hX := hid_mk (hX.out.alloc (.cells #[.int .i64 l.base, .int .i64 l.bt, .slice A n cap] 52))
      replace hY := hid_mk (hY.out.alloc (.cells #[.int .i64 l.base, .int .i64 l.bt, .slice A n cap] 52))
      have hs2 := hb.size; try simp only [World.size_alloc] at hs2; clear hb
      have hne1 : ¬ w2.heap.size = w.heap.size + 1 := by omega
      have hne2 : ¬ w.heap.size + 1 = w2.heap.size := by omega
      have hne3 : ¬ w2.heap.size = w.heap.size := by omega
      have hne4 : ¬ w.heap.size = w2.heap.size := by omega
      go_wp2_with fail
      try rw [← logV_eq]
      refine (vterm_any l at' A n cap _ (by omega) (h.to (by go_grown)) hbd.1 hbd.2.1).mono ?_
      rw [hta.out]
      rintro e w3 ⟨rfl, hb⟩
      have q3 := (after (w := w) hb (by go_grown)).1
      replace hX := hid_mk (hX.out.keep (after hb (by go_grown)).1)
      replace hY := hid_mk (hY.out.keep (after hb (by go_grown)).1)
      replace hV := hid_mk (hV.out.keep (after hb (by go_grown)).1)
      clear hgx x0 x1 x2
      obtain ⟨hgx, x0, x1, x2⟩ := blk3 hX.out
      obtain ⟨hgv, v0, v1, v2⟩ := blk3 hV.out
      obtain ⟨hgy, y0, y1, y2, e0, e1, e2⟩ := blk3f hY.out
      rw [World.size_alloc] at hgy y0 y1 y2 e0 e1 e2
      have hs3 := hb.size; try simp only [World.size_alloc] at hs3; clear hb
      go_wp2_with fail
      go_region_held3 (fun w' => w'.cell? ⟨w.heap.size, 0, none⟩ = some (.int .i64 l.base) ∧ w'.cell? ⟨w.heap.size, 1, none⟩ = some (.int .i64 l.bt) ∧ w'.cell? ⟨w.heap.size, 2, none⟩ = some (.slice A n cap) ∧ w'.cell? ⟨w2.heap.size, 0, none⟩ = some (.int .i64 l.base) ∧ w'.cell? ⟨w2.heap.size, 1, none⟩ = some (.int .i64 l.bt) ∧ w'.cell? ⟨w2.heap.size, 2, none⟩ = some (.slice A n cap)) ((first | (refine ⟨?_, ?_, ?_, ?_, ?_, ?_⟩ <;> assumption) | go_keep)) (first | (go_at_call 33; refine (own_any l A n cap _ (B := B) (by first | omega | (simp; omega)) (by omega) hcap (h.to (by go_grown))).mono ?_; rintro e w4 ⟨A3, n3, c3, rfl, hR3, h31, h32, hb⟩; have q4 := (after (w := w) hb (by go_grown)).1; replace hX := hid_mk (hX.out.keep (after hb (by go_grown)).1); replace hY := hid_mk (hY.out.keep (after hb (by go_grown)).1); replace hV := hid_mk (hV.out.keep (after hb (by go_grown)).1); clear hgx x0 x1 x2 hgy y0 y1 y2 e0 e1 e2 hgv v0 v1 v2; obtain ⟨hgx, x0, x1, x2⟩ := blk3 hX.out; obtain ⟨hgv, v0, v1, v2⟩ := blk3 hV.out; obtain ⟨hgy, y0, y1, y2, e0, e1, e2⟩ := blk3f hY.out; replace hR3 := hid_mk hR3; unfold logV; rw [World.size_alloc] at hgy y0 y1 y2 e0 e1 e2; have hs4 := hb.size; clear hb) | (go_at_call 29; refine (vlast_any l A n cap _ (by omega) hlen.out hbd.1 hbd.2.1).mono ?_; rintro e w5 ⟨rfl, hb⟩; have q5 := (after (w := w) hb (by go_grown)).1; try (replace hR3 := hid_mk (hR3.out.to (after hb (by go_grown)).1)); replace hX := hid_mk (hX.out.keep (after hb (by go_grown)).1); replace hY := hid_mk (hY.out.keep (after hb (by go_grown)).1); replace hV := hid_mk (hV.out.keep (after hb (by go_grown)).1); clear hgx x0 x1 x2 hgy y0 y1 y2 e0 e1 e2 hgv v0 v1 v2; obtain ⟨hgx, x0, x1, x2⟩ := blk3 hX.out; obtain ⟨hgv, v0, v1, v2⟩ := blk3 hV.out; obtain ⟨hgy, y0, y1, y2, e0, e1, e2⟩ := blk3f hY.out; rw [World.size_alloc] at hgy y0 y1 y2 e0 e1 e2; have hs5 := hb.size; clear hb))
      all_goals
        go_wp2
        have hY2 := hY.out
        rw [World.size_alloc] at hY2
        refine bodyPost_ret (v := .tuple #[.agg #[.int .i64 l.base, .int .i64 l.bt, .slice A3 n3 c3], .int .i64 (min (lastJ l) (at' - 1)), .bool false, .int .i64 0]) (by simp [results, Try.results26, go_sem, y0, y1, y2]) rfl ?_
        exact ⟨A3, n3, c3, rfl, set3_reads hY2 _ _ _ (by omega) (by decide) hR3.out, h31, h32, set3_below _ _ _ q5 (by simp)⟩
end Go.Proofs.Ythaddhdlmlnclaa
