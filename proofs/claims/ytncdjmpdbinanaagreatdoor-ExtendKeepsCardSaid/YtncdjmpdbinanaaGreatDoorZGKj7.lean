/-
  WHAT IS PROVED HERE: what journal.Merge hands back where the records do not fit. Conditions: slices of at most 2^41 records.
  WHAT IS PROVED HERE: what journal.Merge hands back where the records fit. Conditions: slices of at most 200 records.
  WHAT IS PROVED HERE: what journal.Merge hands back where the records fit. Conditions: slices of at most 200 records.
-/
import Derived.Test.YtncdjmpdbinanaaGreatDoorZGKj2
namespace Go.Proofs.YtncdjmpdbinanaaGreatDoor
open Go.RowKit

set_option maxRecDepth 100000 in
set_option maxHeartbeats 6400000 in
theorem Merge_one (l : Lg) (at' term : Int) (more : List Rec) (A : Option Addr) (n cap : Nat) (A' : Option Addr) (n' cap' : Nat) (w : World) {B : Nat} (hB : B ≤ w.heap.size) (hm : n ≤ 4398046511103) (hm' : n' ≤ 4398046511103) (hcap : n ≤ cap) (_hcap' : n' ≤ cap') (h : Recs w B A n l.rs) (h' : Recs w B A' n' more) (ga0 : ¬ ((rightJ l && rightJ ⟨at', term, more⟩) = true ∧ ¬ (l.base ≤ at' ∧ termJ l at' ≠ some term))) :
    Calls Tryz.prog 97 #[logV l A n cap, .int .i64 at', .int .i64 term, .slice A' n' cap'] w (RetMg B w (mergeJ l at' term more)) := by
  have hlen := hid_mk h.len
  have hlen' := hid_mk h'.len
  have hX := hid_mk ((Blk.new w 24 #[.int .i64 l.base, .int .i64 l.bt, .slice A n cap]).alloc (.cells #[.int .i64 0, .int .i64 0, .slice none 0 0] 24))
  have hY := hid_mk (Blk.new (w.alloc (.cells #[.int .i64 l.base, .int .i64 l.bt, .slice A n cap] 24)) 24 #[.int .i64 0, .int .i64 0, .slice none 0 0])
  cases hr : rightJ l
  · have hz : Hid (mergeJ l at' term more = ⟨zeroL, 0, false, 1⟩) := by unfold Hid mergeJ; rw [hr]; rfl
    replace hr := hid_mk hr
    rw [hz.out, logV_eq]
    go_enter Tryz.func97, Tryz.ntmps97
    go_wp2_with fail
    try rw [← logV_eq]
    refine (Right_any l _ _ _ _ (by omega) (h.to (by go_grown))).mono ?_
    rw [hr.out]
    rintro e w1 ⟨rfl, hb⟩
    have q1 := (after (w := w) hb (by go_grown)).1
    replace hX := hid_mk (hX.out.keep (after hb (by go_grown)).1)
    replace hY := hid_mk (hY.out.keep (after hb (by go_grown)).1)
    obtain ⟨hgy, y0, y1, y2, e0, e1, e2⟩ := blk3f hY.out
    rw [World.size_alloc] at hgy y0 y1 y2 e0 e1 e2
    have hs1 := hb.size; try simp only [World.size_alloc] at hs1; clear hb
    go_wp2
    refine bodyPost_ret (v := .tuple #[.agg #[.int .i64 0, .int .i64 0, .slice none 0 0], .int .i64 0, .bool false, .int .i64 1]) (by simp [results, Tryz.results97, go_sem, y0, y1, y2]) rfl ?_
    exact ⟨none, 0, 0, rfl, Reads.none_, Nat.le_refl _, by unfold maxLen; omega, set3_below _ _ _ q1 (by simp)⟩
  have hbd := right_bounds hr
  cases hr2 : rightJ ⟨at', term, more⟩
  · have hz : Hid (mergeJ l at' term more = ⟨zeroL, 0, false, 1⟩) := by unfold Hid mergeJ; rw [hr, hr2]; rfl
    replace hr := hid_mk hr
    replace hr2 := hid_mk hr2
    rw [hz.out, logV_eq]
    go_enter Tryz.func97, Tryz.ntmps97
    go_wp2_with fail
    try rw [← logV_eq]
    refine (Right_any l _ _ _ _ (by omega) (h.to (by go_grown))).mono ?_
    rw [hr.out]
    rintro e w1 ⟨rfl, hb⟩
    have q1 := (after (w := w) hb (by go_grown)).1
    replace hX := hid_mk (hX.out.keep (after hb (by go_grown)).1)
    replace hY := hid_mk (hY.out.keep (after hb (by go_grown)).1)
    have hs1 := hb.size; try simp only [World.size_alloc] at hs1; clear hb
    go_wp2_with fail
    rw [logV_mk at' term more]
    refine (Right_any ⟨at', term, more⟩ _ _ _ _ (by omega) (h'.to (by go_grown))).mono ?_
    rw [hr2.out]
    rintro e w2 ⟨rfl, hb⟩
    have q2 := (after (w := w) hb (by go_grown)).1
    replace hX := hid_mk (hX.out.keep (after hb (by go_grown)).1)
    replace hY := hid_mk (hY.out.keep (after hb (by go_grown)).1)
    obtain ⟨hgy, y0, y1, y2, e0, e1, e2⟩ := blk3f hY.out
    rw [World.size_alloc] at hgy y0 y1 y2 e0 e1 e2
    have hs2 := hb.size; try simp only [World.size_alloc] at hs2; clear hb
    go_wp2
    refine bodyPost_ret (v := .tuple #[.agg #[.int .i64 0, .int .i64 0, .slice none 0 0], .int .i64 0, .bool false, .int .i64 1]) (by simp [results, Tryz.results97, go_sem, y0, y1, y2]) rfl ?_
    exact ⟨none, 0, 0, rfl, Reads.none_, Nat.le_refl _, by unfold maxLen; omega, set3_below _ _ _ q2 (by simp)⟩
  have hbd2 := right_bounds hr2
  dsimp only at hbd2
  have hln := hlen.out
  have hln' := hlen'.out
  have hn200 : n ≤ 200 := by omega
  have hn200' : n' ≤ 200 := by omega
  have hwrap : IntKind.i64.wrap (at' - 1) = at' - 1 := IntWalk.i64_in _ (by omega)
  have hV := fun (W : World) => Blk.new W 120 #[.int .i64 l.base, .int .i64 l.bt, .slice A n cap]
  replace hV := hid_mk hV
  by_cases ga : l.base ≤ at' ∧ termJ l at' ≠ some term
  case neg => exact absurd ⟨by rw [hr, hr2]; rfl, ga⟩ ga0
  clear ga0
  · have hz : Hid (mergeJ l at' term more = ⟨l, min (lastJ l) (at' - 1), false, 0⟩) := by unfold Hid mergeJ; rw [hr, hr2]; simp [ga]
    obtain ⟨ga1, ga2⟩ := ga
    cases hta : termJ l at' with
    | none =>
      replace hta := hid_mk hta
      clear ga2
      replace hr := hid_mk hr
      replace hr2 := hid_mk hr2
      rw [hz.out, logV_eq]
      go_enter Tryz.func97, Tryz.ntmps97
      go_wp2_with fail
      try rw [← logV_eq]
      refine (Right_any l _ _ _ _ (by omega) (h.to (by go_grown))).mono ?_
      rw [hr.out]
      rintro e w1 ⟨rfl, hb⟩
      have q1 := (after (w := w) hb (by go_grown)).1
      replace hX := hid_mk (hX.out.keep (after hb (by go_grown)).1)
      replace hY := hid_mk (hY.out.keep (after hb (by go_grown)).1)
      have hs1 := hb.size; try simp only [World.size_alloc] at hs1; clear hb
      go_wp2_with fail
      rw [logV_mk at' term more]
      refine (Right_any ⟨at', term, more⟩ _ _ _ _ (by omega) (h'.to (by go_grown))).mono ?_
      rw [hr2.out]
      rintro e w2 ⟨rfl, hb⟩
      have q2 := (after (w := w) hb (by go_grown)).1
      replace hX := hid_mk (hX.out.keep (after hb (by go_grown)).1)
      replace hY := hid_mk (hY.out.keep (after hb (by go_grown)).1)
      obtain ⟨hgx, x0, x1, x2⟩ := blk3 hX.out
      replace hV := hid_mk (hV.out w2)
      replace hX := hid_mk (hX.out.alloc (.cells #[.int .i64 l.base, .int .i64 l.bt, .slice A n cap] 120))
      replace hY := hid_mk (hY.out.alloc (.cells #[.int .i64 l.base, .int .i64 l.bt, .slice A n cap] 120))
      have hs2 := hb.size; try simp only [World.size_alloc] at hs2; clear hb
      have hne1 : ¬ w2.heap.size = w.heap.size + 1 := by omega
      have hne2 : ¬ w.heap.size + 1 = w2.heap.size := by omega
      have hne3 : ¬ w2.heap.size = w.heap.size := by omega
      have hne4 : ¬ w.heap.size = w2.heap.size := by omega
      go_wp2_with fail
      try rw [← logV_eq]
      refine (vterm_any l at' A n cap _ (by omega) (h.to (by go_grown)) hbd.1 hbd.2.1).mono ?_
      rw [hta.out]
      rintro e w3 ⟨rfl, hb⟩
      have q3 := (after (w := w) hb (by go_grown)).1
      replace hX := hid_mk (hX.out.keep (after hb (by go_grown)).1)
      replace hY := hid_mk (hY.out.keep (after hb (by go_grown)).1)
      replace hV := hid_mk (hV.out.keep (after hb (by go_grown)).1)
      clear hgx x0 x1 x2
      obtain ⟨hgx, x0, x1, x2⟩ := blk3 hX.out
      obtain ⟨hgv, v0, v1, v2⟩ := blk3 hV.out
      obtain ⟨hgy, y0, y1, y2, e0, e1, e2⟩ := blk3f hY.out
      rw [World.size_alloc] at hgy y0 y1 y2 e0 e1 e2
      have hs3 := hb.size; try simp only [World.size_alloc] at hs3; clear hb
      go_wp2_with fail
      go_region_held3 (fun w' => w'.cell? ⟨w.heap.size, 0, none⟩ = some (.int .i64 l.base) ∧ w'.cell? ⟨w.heap.size, 1, none⟩ = some (.int .i64 l.bt) ∧ w'.cell? ⟨w.heap.size, 2, none⟩ = some (.slice A n cap) ∧ w'.cell? ⟨w2.heap.size, 0, none⟩ = some (.int .i64 l.base) ∧ w'.cell? ⟨w2.heap.size, 1, none⟩ = some (.int .i64 l.bt) ∧ w'.cell? ⟨w2.heap.size, 2, none⟩ = some (.slice A n cap)) ((first | (refine ⟨?_, ?_, ?_, ?_, ?_, ?_⟩ <;> assumption) | go_keep)) (first | (go_at_call 119; refine (own_any l A n cap _ (B := B) (by first | omega | (simp; omega)) (by omega) hcap (h.to (by go_grown))).mono ?_; rintro e w4 ⟨A3, n3, c3, rfl, hR3, h31, h32, hb⟩; have q4 := (after (w := w) hb (by go_grown)).1; replace hX := hid_mk (hX.out.keep (after hb (by go_grown)).1); replace hY := hid_mk (hY.out.keep (after hb (by go_grown)).1); replace hV := hid_mk (hV.out.keep (after hb (by go_grown)).1); clear hgx x0 x1 x2 hgy y0 y1 y2 e0 e1 e2 hgv v0 v1 v2; obtain ⟨hgx, x0, x1, x2⟩ := blk3 hX.out; obtain ⟨hgv, v0, v1, v2⟩ := blk3 hV.out; obtain ⟨hgy, y0, y1, y2, e0, e1, e2⟩ := blk3f hY.out; replace hR3 := hid_mk hR3; unfold logV; rw [World.size_alloc] at hgy y0 y1 y2 e0 e1 e2; have hs4 := hb.size; clear hb) | (go_at_call 105; refine (vlast_any l A n cap _ (by omega) hlen.out hbd.1 hbd.2.1).mono ?_; rintro e w5 ⟨rfl, hb⟩; have q5 := (after (w := w) hb (by go_grown)).1; try (replace hR3 := hid_mk (hR3.out.to (after hb (by go_grown)).1)); replace hX := hid_mk (hX.out.keep (after hb (by go_grown)).1); replace hY := hid_mk (hY.out.keep (after hb (by go_grown)).1); replace hV := hid_mk (hV.out.keep (after hb (by go_grown)).1); clear hgx x0 x1 x2 hgy y0 y1 y2 e0 e1 e2 hgv v0 v1 v2; obtain ⟨hgx, x0, x1, x2⟩ := blk3 hX.out; obtain ⟨hgv, v0, v1, v2⟩ := blk3 hV.out; obtain ⟨hgy, y0, y1, y2, e0, e1, e2⟩ := blk3f hY.out; rw [World.size_alloc] at hgy y0 y1 y2 e0 e1 e2; have hs5 := hb.size; clear hb))
      all_goals
        go_wp2
        have hY2 := hY.out
        rw [World.size_alloc] at hY2
        refine bodyPost_ret (v := .tuple #[.agg #[.int .i64 l.base, .int .i64 l.bt, .slice A3 n3 c3], .int .i64 (min (lastJ l) (at' - 1)), .bool false, .int .i64 0]) (by simp [results, Tryz.results97, go_sem, y0, y1, y2]) rfl ?_
        exact ⟨A3, n3, c3, rfl, set3_reads hY2 _ _ _ (by omega) (by decide) hR3.out, h31, h32, set3_below _ _ _ q5 (by simp)⟩
    | some t0 =>
      have hne0 : t0 ≠ term := by rw [hta] at ga2; intro e; exact ga2 (by rw [e])
      have hne0' : (t0 != term) = true := by simpa using hne0
      replace hne0 := hid_mk hne0
      replace hta := hid_mk hta
      clear ga2
      replace hr := hid_mk hr
      replace hr2 := hid_mk hr2
      rw [hz.out, logV_eq]
      go_enter Tryz.func97, Tryz.ntmps97
      go_wp2_with fail
      try rw [← logV_eq]
      refine (Right_any l _ _ _ _ (by omega) (h.to (by go_grown))).mono ?_
      rw [hr.out]
      rintro e w1 ⟨rfl, hb⟩
      have q1 := (after (w := w) hb (by go_grown)).1
      replace hX := hid_mk (hX.out.keep (after hb (by go_grown)).1)
      replace hY := hid_mk (hY.out.keep (after hb (by go_grown)).1)
      have hs1 := hb.size; try simp only [World.size_alloc] at hs1; clear hb
      go_wp2_with fail
      rw [logV_mk at' term more]
      refine (Right_any ⟨at', term, more⟩ _ _ _ _ (by omega) (h'.to (by go_grown))).mono ?_
      rw [hr2.out]
      rintro e w2 ⟨rfl, hb⟩
      have q2 := (after (w := w) hb (by go_grown)).1
      replace hX := hid_mk (hX.out.keep (after hb (by go_grown)).1)
      replace hY := hid_mk (hY.out.keep (after hb (by go_grown)).1)
      obtain ⟨hgx, x0, x1, x2⟩ := blk3 hX.out
      replace hV := hid_mk (hV.out w2)
      replace hX := hid_mk (hX.out.alloc (.cells #[.int .i64 l.base, .int .i64 l.bt, .slice A n cap] 120))
      replace hY := hid_mk (hY.out.alloc (.cells #[.int .i64 l.base, .int .i64 l.bt, .slice A n cap] 120))
      have hs2 := hb.size; try simp only [World.size_alloc] at hs2; clear hb
      have hne1 : ¬ w2.heap.size = w.heap.size + 1 := by omega
      have hne2 : ¬ w.heap.size + 1 = w2.heap.size := by omega
      have hne3 : ¬ w2.heap.size = w.heap.size := by omega
      have hne4 : ¬ w.heap.size = w2.heap.size := by omega
      go_wp2_with fail
      try rw [← logV_eq]
      refine (vterm_any l at' A n cap _ (by omega) (h.to (by go_grown)) hbd.1 hbd.2.1).mono ?_
      rw [hta.out]
      rintro e w3 ⟨rfl, hb⟩
      have q3 := (after (w := w) hb (by go_grown)).1
      replace hX := hid_mk (hX.out.keep (after hb (by go_grown)).1)
      replace hY := hid_mk (hY.out.keep (after hb (by go_grown)).1)
      replace hV := hid_mk (hV.out.keep (after hb (by go_grown)).1)
      clear hgx x0 x1 x2
      obtain ⟨hgx, x0, x1, x2⟩ := blk3 hX.out
      obtain ⟨hgv, v0, v1, v2⟩ := blk3 hV.out
      obtain ⟨hgy, y0, y1, y2, e0, e1, e2⟩ := blk3f hY.out
      rw [World.size_alloc] at hgy y0 y1 y2 e0 e1 e2
      have hs3 := hb.size; try simp only [World.size_alloc] at hs3; clear hb
      go_wp2_with fail
      go_region_held3 (fun w' => w'.cell? ⟨w.heap.size, 0, none⟩ = some (.int .i64 l.base) ∧ w'.cell? ⟨w.heap.size, 1, none⟩ = some (.int .i64 l.bt) ∧ w'.cell? ⟨w.heap.size, 2, none⟩ = some (.slice A n cap) ∧ w'.cell? ⟨w2.heap.size, 0, none⟩ = some (.int .i64 l.base) ∧ w'.cell? ⟨w2.heap.size, 1, none⟩ = some (.int .i64 l.bt) ∧ w'.cell? ⟨w2.heap.size, 2, none⟩ = some (.slice A n cap)) ((first | (refine ⟨?_, ?_, ?_, ?_, ?_, ?_⟩ <;> assumption) | go_keep)) (first | (go_at_call 119; refine (own_any l A n cap _ (B := B) (by first | omega | (simp; omega)) (by omega) hcap (h.to (by go_grown))).mono ?_; rintro e w4 ⟨A3, n3, c3, rfl, hR3, h31, h32, hb⟩; have q4 := (after (w := w) hb (by go_grown)).1; replace hX := hid_mk (hX.out.keep (after hb (by go_grown)).1); replace hY := hid_mk (hY.out.keep (after hb (by go_grown)).1); replace hV := hid_mk (hV.out.keep (after hb (by go_grown)).1); clear hgx x0 x1 x2 hgy y0 y1 y2 e0 e1 e2 hgv v0 v1 v2; obtain ⟨hgx, x0, x1, x2⟩ := blk3 hX.out; obtain ⟨hgv, v0, v1, v2⟩ := blk3 hV.out; obtain ⟨hgy, y0, y1, y2, e0, e1, e2⟩ := blk3f hY.out; replace hR3 := hid_mk hR3; unfold logV; rw [World.size_alloc] at hgy y0 y1 y2 e0 e1 e2; have hs4 := hb.size; clear hb) | (go_at_call 105; refine (vlast_any l A n cap _ (by omega) hlen.out hbd.1 hbd.2.1).mono ?_; rintro e w5 ⟨rfl, hb⟩; have q5 := (after (w := w) hb (by go_grown)).1; try (replace hR3 := hid_mk (hR3.out.to (after hb (by go_grown)).1)); replace hX := hid_mk (hX.out.keep (after hb (by go_grown)).1); replace hY := hid_mk (hY.out.keep (after hb (by go_grown)).1); replace hV := hid_mk (hV.out.keep (after hb (by go_grown)).1); clear hgx x0 x1 x2 hgy y0 y1 y2 e0 e1 e2 hgv v0 v1 v2; obtain ⟨hgx, x0, x1, x2⟩ := blk3 hX.out; obtain ⟨hgv, v0, v1, v2⟩ := blk3 hV.out; obtain ⟨hgy, y0, y1, y2, e0, e1, e2⟩ := blk3f hY.out; rw [World.size_alloc] at hgy y0 y1 y2 e0 e1 e2; have hs5 := hb.size; clear hb))
      all_goals
        go_wp2
        have hY2 := hY.out
        rw [World.size_alloc] at hY2
        refine bodyPost_ret (v := .tuple #[.agg #[.int .i64 l.base, .int .i64 l.bt, .slice A3 n3 c3], .int .i64 (min (lastJ l) (at' - 1)), .bool false, .int .i64 0]) (by simp [results, Tryz.results97, go_sem, y0, y1, y2]) rfl ?_
        exact ⟨A3, n3, c3, rfl, set3_reads hY2 _ _ _ (by omega) (by decide) hR3.out, h31, h32, set3_below _ _ _ q5 (by simp)⟩
end Go.Proofs.YtncdjmpdbinanaaGreatDoor
namespace Go.Proofs.YtncdjmpdbinanaaGreatDoor
open Go.RowKit

set_option maxRecDepth 100000 in
set_option maxRecDepth 100000 in
set_option maxHeartbeats 3200000 in
theorem Merge_fits1 (l : Lg) (at' term : Int) (more : List Rec) (A : Option Addr) (n cap : Nat) (A' : Option Addr) (n' cap' : Nat) (w : World) {B : Nat} (hB : B ≤ w.heap.size) (hcap : n ≤ cap) (hcap' : n' ≤ cap') (h : Recs w B A n l.rs) (h' : Recs w B A' n' more)
    (hr : rightJ l = true) (hr2 : rightJ ⟨at', term, more⟩ = true) (ga : ¬ (l.base ≤ at' ∧ termJ l at' ≠ some term)) (gb : at' < l.base) :
    Calls Tryz.prog 97 #[logV l A n cap, .int .i64 at', .int .i64 term, .slice A' n' cap'] w (RetMg B w (mergeJ l at' term more)) := by
  have hlen := hid_mk h.len
  have hlen' := hid_mk h'.len
  have hX := hid_mk ((Blk.new w 24 #[.int .i64 l.base, .int .i64 l.bt, .slice A n cap]).alloc (.cells #[.int .i64 0, .int .i64 0, .slice none 0 0] 24))
  have hY := hid_mk (Blk.new (w.alloc (.cells #[.int .i64 l.base, .int .i64 l.bt, .slice A n cap] 24)) 24 #[.int .i64 0, .int .i64 0, .slice none 0 0])
  have hbd := right_bounds hr
  have hbd2 := right_bounds hr2
  dsimp only at hbd2
  have hln := hlen.out
  have hln' := hlen'.out
  have hn200 : n ≤ 200 := by omega
  have hn200' : n' ≤ 200 := by omega
  have hV := fun (W : World) => Blk.new W 120 #[.int .i64 l.base, .int .i64 l.bt, .slice A n cap]
  replace hV := hid_mk hV
  have hz := hid_mk (mergeJ_fits hr hr2 ga)
  obtain ⟨mg, hmg⟩ : ∃ mg, mergeJ l at' term more = mg := ⟨_, rfl⟩
  rw [hmg]
  replace hz := hid_mk (hmg.symm.trans hz.out)
  clear hmg
  have hta := termJ_lt l gb
  have hat : at' ≤ l.base + n := by omega
  replace hta := hid_mk hta
  clear ga hln hln'
  replace hr := hid_mk hr
  replace hr2 := hid_mk hr2
  rw [logV_eq]
  refine calls_of_wpQ Tryz.func97 rfl ?_
  intro Q hQ
  simp only [Tryz.ntmps97, List.size_toArray, List.length_cons, List.length_nil, Nat.reduceAdd, Nat.reduceSub, Array.replicate_succ, Array.replicate_zero, List.push_toArray, List.append_toArray, List.nil_append, List.cons_append]
  go_wp2_with fail
  try rw [← logV_eq]
  refine (Right_any l _ _ _ _ (by omega) (h.to (by go_grown))).mono ?_
  rw [hr.out]
  rintro e w1 ⟨rfl, hb⟩
  have q1 := (after (w := w) hb (by go_grown)).1
  replace hX := hid_mk (hX.out.keep (after hb (by go_grown)).1)
  replace hY := hid_mk (hY.out.keep (after hb (by go_grown)).1)
  have hs1 := hb.size; try simp only [World.size_alloc] at hs1; clear hb
  go_wp2_with fail
  rw [logV_mk at' term more]
  refine (Right_any ⟨at', term, more⟩ _ _ _ _ (by omega) (h'.to (by go_grown))).mono ?_
  rw [hr2.out]
  rintro e w2 ⟨rfl, hb⟩
  have q2 := (after (w := w) hb (by go_grown)).1
  replace hX := hid_mk (hX.out.keep (after hb (by go_grown)).1)
  replace hY := hid_mk (hY.out.keep (after hb (by go_grown)).1)
  obtain ⟨hgx, x0, x1, x2⟩ := blk3 hX.out
  replace hV := hid_mk (hV.out w2)
  replace hX := hid_mk (hX.out.alloc (.cells #[.int .i64 l.base, .int .i64 l.bt, .slice A n cap] 120))
  replace hY := hid_mk (hY.out.alloc (.cells #[.int .i64 l.base, .int .i64 l.bt, .slice A n cap] 120))
  have hs2 := hb.size; try simp only [World.size_alloc] at hs2; clear hb
  have hne1 : ¬ w2.heap.size = w.heap.size + 1 := by omega
  have hne2 : ¬ w.heap.size + 1 = w2.heap.size := by omega
  have hne3 : ¬ w2.heap.size = w.heap.size := by omega
  have hne4 : ¬ w.heap.size = w2.heap.size := by omega
  go_wp2_with fail
  try rw [← logV_eq]
  refine (vterm_any l at' A n cap _ (by omega) (h.to (by go_grown)) hbd.1 hbd.2.1).mono ?_
  rw [hta.out]
  rintro e w3 ⟨rfl, hb⟩
  have q3 := (after (w := w) hb (by go_grown)).1
  replace hX := hid_mk (hX.out.keep (after hb (by go_grown)).1)
  replace hY := hid_mk (hY.out.keep (after hb (by go_grown)).1)
  replace hV := hid_mk (hV.out.keep (after hb (by go_grown)).1)
  clear hgx x0 x1 x2
  obtain ⟨hgx, x0, x1, x2⟩ := blk3 hX.out
  obtain ⟨hgv, v0, v1, v2⟩ := blk3 hV.out
  obtain ⟨hgy, y0, y1, y2, e0, e1, e2⟩ := blk3f hY.out
  rw [World.size_alloc] at hgy y0 y1 y2 e0 e1 e2
  have hs3 := hb.size; try simp only [World.size_alloc] at hs3; clear hb
  go_wp2
  go_loopw [72] (fun i wr => ∃ k : Nat, k ≤ n' ∧ i = .int .i64 k ∧ Below w3.heap.size w3 wr ∧ at' + k ≤ l.base + n ∧ Hid (fdJ l at' 0 more = fdJ l at' k (more.drop k))) (fun i _ => n' - (intOf i).toNat)
  case atStart => exact ⟨0, Nat.zero_le _, rfl, Below.refl _ _, by omega, by simp [Hid]⟩
  case round =>
    obtain ⟨k, hk, rfl, hb, hak, hn⟩ := hrel
    have hwz := hb.size
    have qr : Below w.heap.size w wr := q3.trans (hb.mono q3.size)
    replace hX := hid_mk (hX.out.keep hb)
    replace hY := hid_mk (hY.out.keep hb)
    replace hV := hid_mk (hV.out.keep hb)
    clear hgx x0 x1 x2 hgv v0 v1 v2 hgy y0 y1 y2 e0 e1 e2
    obtain ⟨hgx, x0, x1, x2⟩ := blk3 hX.out
    obtain ⟨hgv, v0, v1, v2⟩ := blk3 hV.out
    obtain ⟨hgy, y0, y1, y2, e0, e1, e2⟩ := blk3f hY.out
    rw [World.size_alloc] at hgy y0 y1 y2 e0 e1 e2
    by_cases hlt : k < n'
    · obtain ⟨b, o, r, rfl, hbb, hd, ct, ck, cd⟩ := (h'.to qr).at_ hlt
      obtain ⟨rt, rk, rd⟩ := r
      dsimp only at ct ck cd
      have hRr := hid_mk (Blk.new wr 51 #[.int .i64 rt, .int .i64 rk, .string rd])
      have hb3 := hid_mk hb
      by_cases p1 : at' + 1 + k ≤ l.base
      · skip
        go_wp2_with fail
        try rw [← logV_eq]
        refine (vterm_any l _ A n cap _ (by omega) (h.to (by go_grown)) hbd.1 hbd.2.1).mono ?_
        rintro e w4 ⟨rfl, hb⟩
        have q4 := (after (w := w) hb (by go_grown)).1
        replace hX := hid_mk (hX.out.keep (after hb (by go_grown)).1)
        replace hY := hid_mk (hY.out.keep (after hb (by go_grown)).1)
        replace hV := hid_mk (hV.out.keep (after hb (by go_grown)).1)
        replace hRr := hid_mk (hRr.out.keep (after hb (by go_grown)).1)
        clear hgx x0 x1 x2 hgy y0 y1 y2 e0 e1 e2 hgv v0 v1 v2
        obtain ⟨hgx, x0, x1, x2⟩ := blk3 hX.out
        obtain ⟨hgv, v0, v1, v2⟩ := blk3 hV.out
        obtain ⟨hgy, y0, y1, y2, e0, e1, e2⟩ := blk3f hY.out
        obtain ⟨hgr, r0, r1, r2⟩ := blk3 hRr.out
        rw [World.size_alloc] at hgy y0 y1 y2 e0 e1 e2
        have r4 := (after (w := w3) hb (by go_grown)).1
        have hs4 := hb.size; try simp only [World.size_alloc] at hs4; clear hb
        go_wp2
        go_roundw
        case rel => exact ⟨k + 1, by omega, by go_num, r4, by omega, by rw [Hid, hn.out, hd.out, fdJ, if_pos (.inl p1)]⟩
        case measure => simp [intOf]; omega
      cases hpt : termJ l (at' + 1 + k)
      case' some t1 =>
        by_cases p2 : t1 = rt
        case pos =>
          subst p2
          have hrg := termJ_range hpt
          have hrg' : at' + 1 + k ≤ l.base + n := by have := hlen.out; omega
          clear hrg
          replace hpt := hid_mk hpt
          go_wp2_with fail
          try rw [← logV_eq]
          refine (vterm_any l _ A n cap _ (by omega) (h.to (by go_grown)) hbd.1 hbd.2.1).mono ?_
          rw [hpt.out]
          rintro e w4 ⟨rfl, hb⟩
          have q4 := (after (w := w) hb (by go_grown)).1
          replace hX := hid_mk (hX.out.keep (after hb (by go_grown)).1)
          replace hY := hid_mk (hY.out.keep (after hb (by go_grown)).1)
          replace hV := hid_mk (hV.out.keep (after hb (by go_grown)).1)
          replace hRr := hid_mk (hRr.out.keep (after hb (by go_grown)).1)
          clear hgx x0 x1 x2 hgy y0 y1 y2 e0 e1 e2 hgv v0 v1 v2
          obtain ⟨hgx, x0, x1, x2⟩ := blk3 hX.out
          obtain ⟨hgv, v0, v1, v2⟩ := blk3 hV.out
          obtain ⟨hgy, y0, y1, y2, e0, e1, e2⟩ := blk3f hY.out
          obtain ⟨hgr, r0, r1, r2⟩ := blk3 hRr.out
          rw [World.size_alloc] at hgy y0 y1 y2 e0 e1 e2
          have r4 := (after (w := w3) hb (by go_grown)).1
          have hs4 := hb.size; try simp only [World.size_alloc] at hs4; clear hb
          go_wp2
          go_roundw
          case rel => exact ⟨k + 1, by omega, by go_num, r4, by omega, by rw [Hid, hn.out, hd.out, fdJ, if_pos (.inr hpt.out)]⟩
          case measure => simp [intOf]; omega
        have p2' : (t1 == rt) = false := by simpa using p2
        have hfd : Hid (fdJ l at' 0 more = some k) := by rw [Hid, hn.out, hd.out, fdJ, if_neg]; rintro (e | e) <;> first | omega | (rw [hpt] at e; injection e with e; exact p2 e)
        replace hpt := hid_mk hpt
        replace p2 := hid_mk p2
        go_wp2_with fail
        try rw [← logV_eq]
        refine (vterm_any l _ A n cap _ (by omega) (h.to (by go_grown)) hbd.1 hbd.2.1).mono ?_
        rw [hpt.out]
        rintro e w4 ⟨rfl, hb⟩
        have q4 := (after (w := w) hb (by go_grown)).1
        replace hX := hid_mk (hX.out.keep (after hb (by go_grown)).1)
        replace hY := hid_mk (hY.out.keep (after hb (by go_grown)).1)
        replace hV := hid_mk (hV.out.keep (after hb (by go_grown)).1)
        replace hRr := hid_mk (hRr.out.keep (after hb (by go_grown)).1)
        clear hgx x0 x1 x2 hgy y0 y1 y2 e0 e1 e2 hgv v0 v1 v2
        obtain ⟨hgx, x0, x1, x2⟩ := blk3 hX.out
        obtain ⟨hgv, v0, v1, v2⟩ := blk3 hV.out
        obtain ⟨hgy, y0, y1, y2, e0, e1, e2⟩ := blk3f hY.out
        obtain ⟨hgr, r0, r1, r2⟩ := blk3 hRr.out
        rw [World.size_alloc] at hgy y0 y1 y2 e0 e1 e2
        have r4 := (after (w := w3) hb (by go_grown)).1
        have hs4 := hb.size; try simp only [World.size_alloc] at hs4; clear hb
        go_wp2_with fail
      case' none =>
        have hfd : Hid (fdJ l at' 0 more = some k) := by rw [Hid, hn.out, hd.out, fdJ, if_neg]; rintro (e | e) <;> first | omega | (rw [hpt] at e; cases e)
        replace hpt := hid_mk hpt
        go_wp2_with fail
        try rw [← logV_eq]
        refine (vterm_any l _ A n cap _ (by omega) (h.to (by go_grown)) hbd.1 hbd.2.1).mono ?_
        rw [hpt.out]
        rintro e w4 ⟨rfl, hb⟩
        have q4 := (after (w := w) hb (by go_grown)).1
        replace hX := hid_mk (hX.out.keep (after hb (by go_grown)).1)
        replace hY := hid_mk (hY.out.keep (after hb (by go_grown)).1)
        replace hV := hid_mk (hV.out.keep (after hb (by go_grown)).1)
        replace hRr := hid_mk (hRr.out.keep (after hb (by go_grown)).1)
        clear hgx x0 x1 x2 hgy y0 y1 y2 e0 e1 e2 hgv v0 v1 v2
        obtain ⟨hgx, x0, x1, x2⟩ := blk3 hX.out
        obtain ⟨hgv, v0, v1, v2⟩ := blk3 hV.out
        obtain ⟨hgy, y0, y1, y2, e0, e1, e2⟩ := blk3f hY.out
        obtain ⟨hgr, r0, r1, r2⟩ := blk3 hRr.out
        rw [World.size_alloc] at hgy y0 y1 y2 e0 e1 e2
        have r4 := (after (w := w3) hb (by go_grown)).1
        have hs4 := hb.size; try simp only [World.size_alloc] at hs4; clear hb
        go_wp2_with fail
      all_goals
        have hq4 := hid_mk q4
        obtain ⟨i0, hi0, hz0, hz1, hz2⟩ := info_parts recInfo
        have hw1 : IntKind.i64.wrap (at' + 1 + k - 1) = at' + 1 + k - 1 := IntWalk.i64_in _ (by omega)
        have ekk : (k : Int) ≤ n' := by omega
        have ek0 : (0 : Int) ≤ k := by omega
        have e1 := fun w => run_slice_from (P := Tryz.prog) w 22 51 Tryz.underlying22 i0 hi0 3 hz1 (some ⟨b, o, none⟩) n' cap' k (by omega) (by omega)
        have ecut : cutA (some ⟨b, o, none⟩) cap' k 3 = some ⟨b, o + k * 3, none⟩ := by unfold cutA; rw [if_neg (by omega)]; simp [add_plain]
        simp only [Int.toNat_natCast, ecut] at e1
        clear hgx x0 x1 x2
        obtain ⟨hgx, x0, x1, x2, f0, f1, f2⟩ := blk3f hX.out
        obtain ⟨n1, hn1⟩ : ∃ n1, (at' + 1 + k - 1 - l.base).toNat = n1 := ⟨_, rfl⟩
        have hn1n : n1 ≤ n := by omega
        have hn1' : Hid ((at' + k - l.base).toNat = n1) := by unfold Hid; omega
        replace hn1 := hid_mk hn1
        have hTk : Recs w4 B A n1 (l.rs.take n1) := (h.to q4).take hn1n
        have hNw := (h'.to q4).cutA (k := k) (cap := cap') (by omega) hcap'
        rw [ecut] at hNw
        clear ecut
        go_region_held3 (fun w' => w'.cell? ⟨w2.heap.size, 0, none⟩ = some (.int .i64 l.base) ∧ w'.cell? ⟨w2.heap.size, 1, none⟩ = some (.int .i64 l.bt) ∧ w'.cell? ⟨w2.heap.size, 2, none⟩ = some (.slice A n cap)) ((first | (refine ⟨?_, ?_, ?_⟩ <;> assumption) | go_keep)) (first | (go_at_call 136; refine (upTo_any l _ A n cap _ (by omega) hcap hbd.1 hbd.2.1 (by omega) (by omega)).mono ?_; rw [hn1.out]; rintro e w5 ⟨rfl, hb⟩; have q5 := (after (w := w) hb (by go_grown)).1; replace hTk := hTk.to (after hb (by go_grown)).1; replace hNw := hNw.to (after hb (by go_grown)).1; replace hX := hid_mk (hX.out.keep (after hb (by go_grown)).1); replace hY := hid_mk (hY.out.keep (after hb (by go_grown)).1); replace hV := hid_mk (hV.out.keep (after hb (by go_grown)).1); clear hgx x0 x1 x2 f0 f1 f2 hgy y0 y1 y2 e0 e1 e2 hgv v0 v1 v2 hgr r0 r1 r2; obtain ⟨hgx, x0, x1, x2, f0, f1, f2⟩ := blk3f hX.out; obtain ⟨hgv, v0, v1, v2⟩ := blk3 hV.out; obtain ⟨hgy, y0, y1, y2, e0, e1, e2⟩ := blk3f hY.out; rw [World.size_alloc] at hgy y0 y1 y2 e0 e1 e2; have hs5 := hb.size; clear hb) | (refine step_append_grows (by rfl) (.tmp 104) (.tmp 107) 22 (by rfl) 51 i0 _ 3 32 Tryz.underlying22 hi0 hz0 hz1 hz2 rfl (by omega) A n1 n1 (cellsOf (l.rs.take n1)) (by simp [Act.eval]) (fun e => ⟨reads_none hTk e, reads_none hTk e⟩) hTk.1 (reads_cells hTk) ⟨b, o + k * 3, none⟩ (n' - k) (cap' - k) (cellsOf (more.drop k)) (by simp [Act.eval]) hNw.1 (reads_cells hNw _ rfl) (rec_one _) (by omega) (by unfold maxLen; omega) (by omega) ?_; intro v6 w6 hown6 hg6; obtain ⟨A6, c6, rfl, hc61, hc62⟩ := own_slice hown6; have q6 : Below w.heap.size w w6 := grown_below q5 hg6 (by simp); replace hX := hid_mk (hX.out.grown hg6 (by simp)); replace hY := hid_mk (hY.out.grown hg6 (by simp)); replace hV := hid_mk (hV.out.grown hg6 (by simp)); clear hgx x0 x1 x2 f0 f1 f2 hgy y0 y1 y2 e0 e1 e2 hgv v0 v1 v2; obtain ⟨hgv, v0, v1, v2⟩ := blk3 hV.out; obtain ⟨hgx, x0, x1, x2, f0, f1, f2⟩ := blk3f hX.out; obtain ⟨hgy, y0, y1, y2, e0, e1, e2⟩ := blk3f hY.out; rw [World.size_alloc] at hgy y0 y1 y2 e0 e1 e2))
        have hR6 : Recs w6 B A6 (n1 + (n' - k)) (l.rs.take n1 ++ more.drop k) := recs_append (Reads.of_own hown6)
        have hR7 := Reads.far hR6 hX.out hB (by decide) 2 (.slice A6 (n1 + (n' - k)) c6)
        have hX7 : Blk (w6.setCell ⟨w.heap.size, 2, none⟩ (.slice A6 (n1 + (n' - k)) c6)) w.heap.size 24 #[.int .i64 l.base, .int .i64 l.bt, .slice A6 (n1 + (n' - k)) c6] := hX.out.set_ 2 _
        have hY0 := hY.out
        rw [World.size_alloc] at hY0
        have hY7 := hY0.far (p := ⟨w.heap.size, 2, none⟩) (by simp) (.slice A6 (n1 + (n' - k)) c6)
        have q7 := q6.setCell (p := ⟨w.heap.size, 2, none⟩) (Nat.le_refl _) (.slice A6 (n1 + (n' - k)) c6)
        clear hgx x0 x1 x2 f0 f1 f2 hgy y0 y1 y2 e0 e1 e2 hgv v0 v1 v2 hX hY hV hY0 hR6
        obtain ⟨w7, e7⟩ : ∃ w7, w6.setCell ⟨w.heap.size, 2, none⟩ (.slice A6 (n1 + (n' - k)) c6) = w7 := ⟨_, rfl⟩
        rw [e7] at hR7 hX7 hY7 q7 ⊢
        clear e7
        obtain ⟨N, hN⟩ : ∃ N, n1 + (n' - k) = N := ⟨_, rfl⟩
        rw [hN] at hR7 hX7 hc61 ⊢
        have hN4 : N ≤ 400 := by omega
        replace hN := hid_mk hN
        obtain ⟨rs', hrs⟩ : ∃ rs', l.rs.take n1 ++ more.drop k = rs' := ⟨_, rfl⟩
        rw [hrs] at hR7
        replace hrs := hid_mk hrs
        have hR8 : Recs w7 B A6 N rs' := hR7
        clear hR7
        have hl8 := hid_mk hR8.len
        have hz2 : Hid (mg = if 200 < N then ⟨zeroL, 0, false, 130⟩ else if rightJ ⟨l.base, l.bt, rs'⟩ then ⟨⟨l.base, l.bt, rs'⟩, max l.base (at' + n'), true, 0⟩ else ⟨zeroL, 0, false, 1⟩) := by
          unfold Hid
          rw [hz.out, hfd.out]
          dsimp only
          rw [hn1'.out, hrs.out, hl8.out, hlen'.out]
        clear hz hn hfd hn1' hn1 hd
        obtain ⟨hgx, x0, x1, x2, f0, f1, f2⟩ := blk3f hX7
        obtain ⟨hgy, y0, y1, y2, e0, e1, e2⟩ := blk3f hY7
        replace hY7 := hid_mk hY7
        replace hX7 := hid_mk hX7
        by_cases g200 : 200 < N
        · go_wp2
          try simp only [Exit.inBlock, Exit.then]
          refine ends_ret hQ (v := .tuple #[.agg #[.int .i64 0, .int .i64 0, .slice none 0 0], .int .i64 0, .bool false, .int .i64 130]) (by simp [results, Tryz.results97, go_sem, y0, y1, y2]) rfl ?_
          rw [hz2.out, if_pos g200]
          exact ⟨none, 0, 0, rfl, Reads.none_, Nat.le_refl _, by unfold maxLen; omega, set3_below _ _ _ q7 (by simp)⟩
        cases hr3 : rightJ ⟨l.base, l.bt, rs'⟩
        · replace hr3 := hid_mk hr3
          go_wp2_with fail
          rw [logV_mk l.base l.bt rs']
          refine (Right_any ⟨l.base, l.bt, rs'⟩ _ _ _ _ (by omega) (hR8.to (by go_grown))).mono ?_
          rw [hr3.out]
          rintro e w8 ⟨rfl, hb⟩
          have q8 := (after (w := w) hb (by go_grown)).1
          replace hY7 := hid_mk (hY7.out.keep (after hb (by go_grown)).1)
          clear hgx x0 x1 x2 f0 f1 f2 hgy y0 y1 y2 e0 e1 e2
          obtain ⟨hgy, y0, y1, y2, e0, e1, e2⟩ := blk3f hY7.out
          have hs8 := hb.size; try simp only [World.size_alloc] at hs8; clear hb
          go_wp2
          try simp only [Exit.inBlock, Exit.then]
          refine ends_ret hQ (v := .tuple #[.agg #[.int .i64 0, .int .i64 0, .slice none 0 0], .int .i64 0, .bool false, .int .i64 1]) (by simp [results, Tryz.results97, go_sem, y0, y1, y2]) rfl ?_
          rw [hz2.out, if_neg g200, if_neg (by rw [hr3.out]; decide)]
          exact ⟨none, 0, 0, rfl, Reads.none_, Nat.le_refl _, by unfold maxLen; omega, set3_below _ _ _ q8 (by simp)⟩
        · replace hr3 := hid_mk hr3
          go_wp2_with fail
          rw [logV_mk l.base l.bt rs']
          refine (Right_any ⟨l.base, l.bt, rs'⟩ _ _ _ _ (by omega) (hR8.to (by go_grown))).mono ?_
          rw [hr3.out]
          rintro e w8 ⟨rfl, hb⟩
          have q8 := (after (w := w) hb (by go_grown)).1
          replace hY7 := hid_mk (hY7.out.keep (after hb (by go_grown)).1)
          replace hX7 := hid_mk (hX7.out.keep (after hb (by go_grown)).1)
          replace hR8 := hR8.to (after hb (by go_grown)).1
          clear hgx x0 x1 x2 f0 f1 f2 hgy y0 y1 y2 e0 e1 e2
          obtain ⟨hgx, x0, x1, x2, f0, f1, f2⟩ := blk3f hX7.out
          obtain ⟨hgy, y0, y1, y2, e0, e1, e2⟩ := blk3f hY7.out
          have hs8 := hb.size; try simp only [World.size_alloc] at hs8; clear hb
          go_wp2_with fail
          rw [logV_mk l.base l.bt rs']
          refine (own_any ⟨l.base, l.bt, rs'⟩ A6 N c6 _ (B := B) (by first | omega | (simp; omega)) (by omega) hc61 (hR8.to (by go_grown))).mono ?_
          rintro e w9 ⟨A3, n3, c3, rfl, hR3, h31, h32, hb⟩
          have q9 := (after (w := w) hb (by go_grown)).1
          replace hY7 := hid_mk (hY7.out.keep (after hb (by go_grown)).1)
          clear hgx x0 x1 x2 f0 f1 f2 hgy y0 y1 y2 e0 e1 e2
          obtain ⟨hgy, y0, y1, y2, e0, e1, e2⟩ := blk3f hY7.out
          unfold logV
          have hs9 := hb.size; try simp only [World.size_alloc] at hs9; clear hb
          go_wp2
          have hY2 := hY7.out
          try simp only [Exit.inBlock, Exit.then]
          refine ends_ret hQ (v := .tuple #[.agg #[.int .i64 l.base, .int .i64 l.bt, .slice A3 n3 c3], .int .i64 (max l.base (at' + n')), .bool true, .int .i64 0]) (by simp [results, Tryz.results97, go_sem, y0, y1, y2]) rfl ?_
          rw [hz2.out, if_neg g200, if_pos hr3.out]
          exact ⟨A3, n3, c3, rfl, set3_reads hY2 _ _ _ (by omega) (by decide) hR3, h31, h32, set3_below _ _ _ q9 (by simp)⟩
    · have he := hid_mk (h'.end_ hlt)
      have hfd : Hid (fdJ l at' 0 more = none) := by rw [Hid, hn.out, he.out]; rfl
      have hz2 : Hid (mg = ⟨l, max l.base (at' + n'), true, 0⟩) := by unfold Hid; rw [hz.out, hfd.out, hlen'.out]
      clear hn hfd he
      go_wp2_with fail
      try rw [← logV_eq]
      refine (own_any l A n cap _ (B := B) (by first | omega | (simp; omega)) (by omega) hcap (h.to (by go_grown))).mono ?_
      rintro e w5 ⟨A3, n3, c3, rfl, hR3, h31, h32, hb⟩
      have q5 := (after (w := w) hb (by go_grown)).1
      replace hY := hid_mk (hY.out.keep (after hb (by go_grown)).1)
      clear hgx x0 x1 x2 hgy y0 y1 y2 e0 e1 e2 hgv v0 v1 v2
      obtain ⟨hgy, y0, y1, y2, e0, e1, e2⟩ := blk3f hY.out
      rw [World.size_alloc] at hgy y0 y1 y2 e0 e1 e2
      unfold logV
      have hs5 := hb.size; try simp only [World.size_alloc] at hs5; clear hb
      go_wp2
      have hY2 := hY.out
      rw [World.size_alloc] at hY2
      try simp only [Exit.inBlock, Exit.then]
      refine ends_ret hQ (v := .tuple #[.agg #[.int .i64 l.base, .int .i64 l.bt, .slice A3 n3 c3], .int .i64 (max l.base (at' + n')), .bool true, .int .i64 0]) (by simp [results, Tryz.results97, go_sem, y0, y1, y2]) rfl ?_
      rw [hz2.out]
      exact ⟨A3, n3, c3, rfl, set3_reads hY2 _ _ _ (by omega) (by decide) hR3, h31, h32, set3_below _ _ _ q5 (by simp)⟩
end Go.Proofs.YtncdjmpdbinanaaGreatDoor
namespace Go.Proofs.YtncdjmpdbinanaaGreatDoor
open Go.RowKit

set_option maxRecDepth 100000 in
set_option maxRecDepth 100000 in
set_option maxHeartbeats 3200000 in
theorem Merge_fits2 (l : Lg) (at' term : Int) (more : List Rec) (A : Option Addr) (n cap : Nat) (A' : Option Addr) (n' cap' : Nat) (w : World) {B : Nat} (hB : B ≤ w.heap.size) (hcap : n ≤ cap) (hcap' : n' ≤ cap') (h : Recs w B A n l.rs) (h' : Recs w B A' n' more)
    (hr : rightJ l = true) (hr2 : rightJ ⟨at', term, more⟩ = true) (ga : ¬ (l.base ≤ at' ∧ termJ l at' ≠ some term)) (gb : ¬ at' < l.base) :
    Calls Tryz.prog 97 #[logV l A n cap, .int .i64 at', .int .i64 term, .slice A' n' cap'] w (RetMg B w (mergeJ l at' term more)) := by
  have hlen := hid_mk h.len
  have hlen' := hid_mk h'.len
  have hX := hid_mk ((Blk.new w 24 #[.int .i64 l.base, .int .i64 l.bt, .slice A n cap]).alloc (.cells #[.int .i64 0, .int .i64 0, .slice none 0 0] 24))
  have hY := hid_mk (Blk.new (w.alloc (.cells #[.int .i64 l.base, .int .i64 l.bt, .slice A n cap] 24)) 24 #[.int .i64 0, .int .i64 0, .slice none 0 0])
  have hbd := right_bounds hr
  have hbd2 := right_bounds hr2
  dsimp only at hbd2
  have hln := hlen.out
  have hln' := hlen'.out
  have hn200 : n ≤ 200 := by omega
  have hn200' : n' ≤ 200 := by omega
  have hV := fun (W : World) => Blk.new W 120 #[.int .i64 l.base, .int .i64 l.bt, .slice A n cap]
  replace hV := hid_mk hV
  have hz := hid_mk (mergeJ_fits hr hr2 ga)
  obtain ⟨mg, hmg⟩ : ∃ mg, mergeJ l at' term more = mg := ⟨_, rfl⟩
  rw [hmg]
  replace hz := hid_mk (hmg.symm.trans hz.out)
  clear hmg
  have hta : termJ l at' = some term := Classical.byContradiction fun e => ga ⟨by omega, e⟩
  have hat : at' ≤ l.base + n := by have := termJ_range hta; omega
  replace hta := hid_mk hta
  clear ga hln hln'
  replace hr := hid_mk hr
  replace hr2 := hid_mk hr2
  rw [logV_eq]
  refine calls_of_wpQ Tryz.func97 rfl ?_
  intro Q hQ
  simp only [Tryz.ntmps97, List.size_toArray, List.length_cons, List.length_nil, Nat.reduceAdd, Nat.reduceSub, Array.replicate_succ, Array.replicate_zero, List.push_toArray, List.append_toArray, List.nil_append, List.cons_append]
  go_wp2_with fail
  try rw [← logV_eq]
  refine (Right_any l _ _ _ _ (by omega) (h.to (by go_grown))).mono ?_
  rw [hr.out]
  rintro e w1 ⟨rfl, hb⟩
  have q1 := (after (w := w) hb (by go_grown)).1
  replace hX := hid_mk (hX.out.keep (after hb (by go_grown)).1)
  replace hY := hid_mk (hY.out.keep (after hb (by go_grown)).1)
  have hs1 := hb.size; try simp only [World.size_alloc] at hs1; clear hb
  go_wp2_with fail
  rw [logV_mk at' term more]
  refine (Right_any ⟨at', term, more⟩ _ _ _ _ (by omega) (h'.to (by go_grown))).mono ?_
  rw [hr2.out]
  rintro e w2 ⟨rfl, hb⟩
  have q2 := (after (w := w) hb (by go_grown)).1
  replace hX := hid_mk (hX.out.keep (after hb (by go_grown)).1)
  replace hY := hid_mk (hY.out.keep (after hb (by go_grown)).1)
  obtain ⟨hgx, x0, x1, x2⟩ := blk3 hX.out
  replace hV := hid_mk (hV.out w2)
  replace hX := hid_mk (hX.out.alloc (.cells #[.int .i64 l.base, .int .i64 l.bt, .slice A n cap] 120))
  replace hY := hid_mk (hY.out.alloc (.cells #[.int .i64 l.base, .int .i64 l.bt, .slice A n cap] 120))
  have hs2 := hb.size; try simp only [World.size_alloc] at hs2; clear hb
  have hne1 : ¬ w2.heap.size = w.heap.size + 1 := by omega
  have hne2 : ¬ w.heap.size + 1 = w2.heap.size := by omega
  have hne3 : ¬ w2.heap.size = w.heap.size := by omega
  have hne4 : ¬ w.heap.size = w2.heap.size := by omega
  go_wp2_with fail
  try rw [← logV_eq]
  refine (vterm_any l at' A n cap _ (by omega) (h.to (by go_grown)) hbd.1 hbd.2.1).mono ?_
  rw [hta.out]
  rintro e w3 ⟨rfl, hb⟩
  have q3 := (after (w := w) hb (by go_grown)).1
  replace hX := hid_mk (hX.out.keep (after hb (by go_grown)).1)
  replace hY := hid_mk (hY.out.keep (after hb (by go_grown)).1)
  replace hV := hid_mk (hV.out.keep (after hb (by go_grown)).1)
  clear hgx x0 x1 x2
  obtain ⟨hgx, x0, x1, x2⟩ := blk3 hX.out
  obtain ⟨hgv, v0, v1, v2⟩ := blk3 hV.out
  obtain ⟨hgy, y0, y1, y2, e0, e1, e2⟩ := blk3f hY.out
  rw [World.size_alloc] at hgy y0 y1 y2 e0 e1 e2
  have hs3 := hb.size; try simp only [World.size_alloc] at hs3; clear hb
  go_wp2
  go_loopw [72] (fun i wr => ∃ k : Nat, k ≤ n' ∧ i = .int .i64 k ∧ Below w3.heap.size w3 wr ∧ at' + k ≤ l.base + n ∧ Hid (fdJ l at' 0 more = fdJ l at' k (more.drop k))) (fun i _ => n' - (intOf i).toNat)
  case atStart => exact ⟨0, Nat.zero_le _, rfl, Below.refl _ _, by omega, by simp [Hid]⟩
  case round =>
    obtain ⟨k, hk, rfl, hb, hak, hn⟩ := hrel
    have hwz := hb.size
    have qr : Below w.heap.size w wr := q3.trans (hb.mono q3.size)
    replace hX := hid_mk (hX.out.keep hb)
    replace hY := hid_mk (hY.out.keep hb)
    replace hV := hid_mk (hV.out.keep hb)
    clear hgx x0 x1 x2 hgv v0 v1 v2 hgy y0 y1 y2 e0 e1 e2
    obtain ⟨hgx, x0, x1, x2⟩ := blk3 hX.out
    obtain ⟨hgv, v0, v1, v2⟩ := blk3 hV.out
    obtain ⟨hgy, y0, y1, y2, e0, e1, e2⟩ := blk3f hY.out
    rw [World.size_alloc] at hgy y0 y1 y2 e0 e1 e2
    by_cases hlt : k < n'
    · obtain ⟨b, o, r, rfl, hbb, hd, ct, ck, cd⟩ := (h'.to qr).at_ hlt
      obtain ⟨rt, rk, rd⟩ := r
      dsimp only at ct ck cd
      have hRr := hid_mk (Blk.new wr 51 #[.int .i64 rt, .int .i64 rk, .string rd])
      have hb3 := hid_mk hb
      have p1 : l.base < at' + 1 + k := by omega
      cases hpt : termJ l (at' + 1 + k)
      case' some t1 =>
        by_cases p2 : t1 = rt
        case pos =>
          subst p2
          have hrg := termJ_range hpt
          have hrg' : at' + 1 + k ≤ l.base + n := by have := hlen.out; omega
          clear hrg
          replace hpt := hid_mk hpt
          go_wp2_with fail
          try rw [← logV_eq]
          refine (vterm_any l _ A n cap _ (by omega) (h.to (by go_grown)) hbd.1 hbd.2.1).mono ?_
          rw [hpt.out]
          rintro e w4 ⟨rfl, hb⟩
          have q4 := (after (w := w) hb (by go_grown)).1
          replace hX := hid_mk (hX.out.keep (after hb (by go_grown)).1)
          replace hY := hid_mk (hY.out.keep (after hb (by go_grown)).1)
          replace hV := hid_mk (hV.out.keep (after hb (by go_grown)).1)
          replace hRr := hid_mk (hRr.out.keep (after hb (by go_grown)).1)
          clear hgx x0 x1 x2 hgy y0 y1 y2 e0 e1 e2 hgv v0 v1 v2
          obtain ⟨hgx, x0, x1, x2⟩ := blk3 hX.out
          obtain ⟨hgv, v0, v1, v2⟩ := blk3 hV.out
          obtain ⟨hgy, y0, y1, y2, e0, e1, e2⟩ := blk3f hY.out
          obtain ⟨hgr, r0, r1, r2⟩ := blk3 hRr.out
          rw [World.size_alloc] at hgy y0 y1 y2 e0 e1 e2
          have r4 := (after (w := w3) hb (by go_grown)).1
          have hs4 := hb.size; try simp only [World.size_alloc] at hs4; clear hb
          go_wp2
          go_roundw
          case rel => exact ⟨k + 1, by omega, by go_num, r4, by omega, by rw [Hid, hn.out, hd.out, fdJ, if_pos (.inr hpt.out)]⟩
          case measure => simp [intOf]; omega
        have p2' : (t1 == rt) = false := by simpa using p2
        have hfd : Hid (fdJ l at' 0 more = some k) := by rw [Hid, hn.out, hd.out, fdJ, if_neg]; rintro (e | e) <;> first | omega | (rw [hpt] at e; injection e with e; exact p2 e)
        replace hpt := hid_mk hpt
        replace p2 := hid_mk p2
        go_wp2_with fail
        try rw [← logV_eq]
        refine (vterm_any l _ A n cap _ (by omega) (h.to (by go_grown)) hbd.1 hbd.2.1).mono ?_
        rw [hpt.out]
        rintro e w4 ⟨rfl, hb⟩
        have q4 := (after (w := w) hb (by go_grown)).1
        replace hX := hid_mk (hX.out.keep (after hb (by go_grown)).1)
        replace hY := hid_mk (hY.out.keep (after hb (by go_grown)).1)
        replace hV := hid_mk (hV.out.keep (after hb (by go_grown)).1)
        replace hRr := hid_mk (hRr.out.keep (after hb (by go_grown)).1)
        clear hgx x0 x1 x2 hgy y0 y1 y2 e0 e1 e2 hgv v0 v1 v2
        obtain ⟨hgx, x0, x1, x2⟩ := blk3 hX.out
        obtain ⟨hgv, v0, v1, v2⟩ := blk3 hV.out
        obtain ⟨hgy, y0, y1, y2, e0, e1, e2⟩ := blk3f hY.out
        obtain ⟨hgr, r0, r1, r2⟩ := blk3 hRr.out
        rw [World.size_alloc] at hgy y0 y1 y2 e0 e1 e2
        have r4 := (after (w := w3) hb (by go_grown)).1
        have hs4 := hb.size; try simp only [World.size_alloc] at hs4; clear hb
        go_wp2_with fail
      case' none =>
        have hfd : Hid (fdJ l at' 0 more = some k) := by rw [Hid, hn.out, hd.out, fdJ, if_neg]; rintro (e | e) <;> first | omega | (rw [hpt] at e; cases e)
        replace hpt := hid_mk hpt
        go_wp2_with fail
        try rw [← logV_eq]
        refine (vterm_any l _ A n cap _ (by omega) (h.to (by go_grown)) hbd.1 hbd.2.1).mono ?_
        rw [hpt.out]
        rintro e w4 ⟨rfl, hb⟩
        have q4 := (after (w := w) hb (by go_grown)).1
        replace hX := hid_mk (hX.out.keep (after hb (by go_grown)).1)
        replace hY := hid_mk (hY.out.keep (after hb (by go_grown)).1)
        replace hV := hid_mk (hV.out.keep (after hb (by go_grown)).1)
        replace hRr := hid_mk (hRr.out.keep (after hb (by go_grown)).1)
        clear hgx x0 x1 x2 hgy y0 y1 y2 e0 e1 e2 hgv v0 v1 v2
        obtain ⟨hgx, x0, x1, x2⟩ := blk3 hX.out
        obtain ⟨hgv, v0, v1, v2⟩ := blk3 hV.out
        obtain ⟨hgy, y0, y1, y2, e0, e1, e2⟩ := blk3f hY.out
        obtain ⟨hgr, r0, r1, r2⟩ := blk3 hRr.out
        rw [World.size_alloc] at hgy y0 y1 y2 e0 e1 e2
        have r4 := (after (w := w3) hb (by go_grown)).1
        have hs4 := hb.size; try simp only [World.size_alloc] at hs4; clear hb
        go_wp2_with fail
      all_goals
        have hq4 := hid_mk q4
        obtain ⟨i0, hi0, hz0, hz1, hz2⟩ := info_parts recInfo
        have hw1 : IntKind.i64.wrap (at' + 1 + k - 1) = at' + 1 + k - 1 := IntWalk.i64_in _ (by omega)
        have ekk : (k : Int) ≤ n' := by omega
        have ek0 : (0 : Int) ≤ k := by omega
        have e1 := fun w => run_slice_from (P := Tryz.prog) w 22 51 Tryz.underlying22 i0 hi0 3 hz1 (some ⟨b, o, none⟩) n' cap' k (by omega) (by omega)
        have ecut : cutA (some ⟨b, o, none⟩) cap' k 3 = some ⟨b, o + k * 3, none⟩ := by unfold cutA; rw [if_neg (by omega)]; simp [add_plain]
        simp only [Int.toNat_natCast, ecut] at e1
        clear hgx x0 x1 x2
        obtain ⟨hgx, x0, x1, x2, f0, f1, f2⟩ := blk3f hX.out
        obtain ⟨n1, hn1⟩ : ∃ n1, (at' + 1 + k - 1 - l.base).toNat = n1 := ⟨_, rfl⟩
        have hn1n : n1 ≤ n := by omega
        have hn1' : Hid ((at' + k - l.base).toNat = n1) := by unfold Hid; omega
        replace hn1 := hid_mk hn1
        have hTk : Recs w4 B A n1 (l.rs.take n1) := (h.to q4).take hn1n
        have hNw := (h'.to q4).cutA (k := k) (cap := cap') (by omega) hcap'
        rw [ecut] at hNw
        clear ecut
        go_region_held3 (fun w' => w'.cell? ⟨w2.heap.size, 0, none⟩ = some (.int .i64 l.base) ∧ w'.cell? ⟨w2.heap.size, 1, none⟩ = some (.int .i64 l.bt) ∧ w'.cell? ⟨w2.heap.size, 2, none⟩ = some (.slice A n cap)) ((first | (refine ⟨?_, ?_, ?_⟩ <;> assumption) | go_keep)) (first | (go_at_call 136; refine (upTo_any l _ A n cap _ (by omega) hcap hbd.1 hbd.2.1 (by omega) (by omega)).mono ?_; rw [hn1.out]; rintro e w5 ⟨rfl, hb⟩; have q5 := (after (w := w) hb (by go_grown)).1; replace hTk := hTk.to (after hb (by go_grown)).1; replace hNw := hNw.to (after hb (by go_grown)).1; replace hX := hid_mk (hX.out.keep (after hb (by go_grown)).1); replace hY := hid_mk (hY.out.keep (after hb (by go_grown)).1); replace hV := hid_mk (hV.out.keep (after hb (by go_grown)).1); clear hgx x0 x1 x2 f0 f1 f2 hgy y0 y1 y2 e0 e1 e2 hgv v0 v1 v2 hgr r0 r1 r2; obtain ⟨hgx, x0, x1, x2, f0, f1, f2⟩ := blk3f hX.out; obtain ⟨hgv, v0, v1, v2⟩ := blk3 hV.out; obtain ⟨hgy, y0, y1, y2, e0, e1, e2⟩ := blk3f hY.out; rw [World.size_alloc] at hgy y0 y1 y2 e0 e1 e2; have hs5 := hb.size; clear hb) | (refine step_append_grows (by rfl) (.tmp 104) (.tmp 107) 22 (by rfl) 51 i0 _ 3 32 Tryz.underlying22 hi0 hz0 hz1 hz2 rfl (by omega) A n1 n1 (cellsOf (l.rs.take n1)) (by simp [Act.eval]) (fun e => ⟨reads_none hTk e, reads_none hTk e⟩) hTk.1 (reads_cells hTk) ⟨b, o + k * 3, none⟩ (n' - k) (cap' - k) (cellsOf (more.drop k)) (by simp [Act.eval]) hNw.1 (reads_cells hNw _ rfl) (rec_one _) (by omega) (by unfold maxLen; omega) (by omega) ?_; intro v6 w6 hown6 hg6; obtain ⟨A6, c6, rfl, hc61, hc62⟩ := own_slice hown6; have q6 : Below w.heap.size w w6 := grown_below q5 hg6 (by simp); replace hX := hid_mk (hX.out.grown hg6 (by simp)); replace hY := hid_mk (hY.out.grown hg6 (by simp)); replace hV := hid_mk (hV.out.grown hg6 (by simp)); clear hgx x0 x1 x2 f0 f1 f2 hgy y0 y1 y2 e0 e1 e2 hgv v0 v1 v2; obtain ⟨hgv, v0, v1, v2⟩ := blk3 hV.out; obtain ⟨hgx, x0, x1, x2, f0, f1, f2⟩ := blk3f hX.out; obtain ⟨hgy, y0, y1, y2, e0, e1, e2⟩ := blk3f hY.out; rw [World.size_alloc] at hgy y0 y1 y2 e0 e1 e2))
        have hR6 : Recs w6 B A6 (n1 + (n' - k)) (l.rs.take n1 ++ more.drop k) := recs_append (Reads.of_own hown6)
        have hR7 := Reads.far hR6 hX.out hB (by decide) 2 (.slice A6 (n1 + (n' - k)) c6)
        have hX7 : Blk (w6.setCell ⟨w.heap.size, 2, none⟩ (.slice A6 (n1 + (n' - k)) c6)) w.heap.size 24 #[.int .i64 l.base, .int .i64 l.bt, .slice A6 (n1 + (n' - k)) c6] := hX.out.set_ 2 _
        have hY0 := hY.out
        rw [World.size_alloc] at hY0
        have hY7 := hY0.far (p := ⟨w.heap.size, 2, none⟩) (by simp) (.slice A6 (n1 + (n' - k)) c6)
        have q7 := q6.setCell (p := ⟨w.heap.size, 2, none⟩) (Nat.le_refl _) (.slice A6 (n1 + (n' - k)) c6)
        clear hgx x0 x1 x2 f0 f1 f2 hgy y0 y1 y2 e0 e1 e2 hgv v0 v1 v2 hX hY hV hY0 hR6
        obtain ⟨w7, e7⟩ : ∃ w7, w6.setCell ⟨w.heap.size, 2, none⟩ (.slice A6 (n1 + (n' - k)) c6) = w7 := ⟨_, rfl⟩
        rw [e7] at hR7 hX7 hY7 q7 ⊢
        clear e7
        obtain ⟨N, hN⟩ : ∃ N, n1 + (n' - k) = N := ⟨_, rfl⟩
        rw [hN] at hR7 hX7 hc61 ⊢
        have hN4 : N ≤ 400 := by omega
        replace hN := hid_mk hN
        obtain ⟨rs', hrs⟩ : ∃ rs', l.rs.take n1 ++ more.drop k = rs' := ⟨_, rfl⟩
        rw [hrs] at hR7
        replace hrs := hid_mk hrs
        have hR8 : Recs w7 B A6 N rs' := hR7
        clear hR7
        have hl8 := hid_mk hR8.len
        have hz2 : Hid (mg = if 200 < N then ⟨zeroL, 0, false, 130⟩ else if rightJ ⟨l.base, l.bt, rs'⟩ then ⟨⟨l.base, l.bt, rs'⟩, max l.base (at' + n'), true, 0⟩ else ⟨zeroL, 0, false, 1⟩) := by
          unfold Hid
          rw [hz.out, hfd.out]
          dsimp only
          rw [hn1'.out, hrs.out, hl8.out, hlen'.out]
        clear hz hn hfd hn1' hn1 hd
        obtain ⟨hgx, x0, x1, x2, f0, f1, f2⟩ := blk3f hX7
        obtain ⟨hgy, y0, y1, y2, e0, e1, e2⟩ := blk3f hY7
        replace hY7 := hid_mk hY7
        replace hX7 := hid_mk hX7
        by_cases g200 : 200 < N
        · go_wp2
          try simp only [Exit.inBlock, Exit.then]
          refine ends_ret hQ (v := .tuple #[.agg #[.int .i64 0, .int .i64 0, .slice none 0 0], .int .i64 0, .bool false, .int .i64 130]) (by simp [results, Tryz.results97, go_sem, y0, y1, y2]) rfl ?_
          rw [hz2.out, if_pos g200]
          exact ⟨none, 0, 0, rfl, Reads.none_, Nat.le_refl _, by unfold maxLen; omega, set3_below _ _ _ q7 (by simp)⟩
        cases hr3 : rightJ ⟨l.base, l.bt, rs'⟩
        · replace hr3 := hid_mk hr3
          go_wp2_with fail
          rw [logV_mk l.base l.bt rs']
          refine (Right_any ⟨l.base, l.bt, rs'⟩ _ _ _ _ (by omega) (hR8.to (by go_grown))).mono ?_
          rw [hr3.out]
          rintro e w8 ⟨rfl, hb⟩
          have q8 := (after (w := w) hb (by go_grown)).1
          replace hY7 := hid_mk (hY7.out.keep (after hb (by go_grown)).1)
          clear hgx x0 x1 x2 f0 f1 f2 hgy y0 y1 y2 e0 e1 e2
          obtain ⟨hgy, y0, y1, y2, e0, e1, e2⟩ := blk3f hY7.out
          have hs8 := hb.size; try simp only [World.size_alloc] at hs8; clear hb
          go_wp2
          try simp only [Exit.inBlock, Exit.then]
          refine ends_ret hQ (v := .tuple #[.agg #[.int .i64 0, .int .i64 0, .slice none 0 0], .int .i64 0, .bool false, .int .i64 1]) (by simp [results, Tryz.results97, go_sem, y0, y1, y2]) rfl ?_
          rw [hz2.out, if_neg g200, if_neg (by rw [hr3.out]; decide)]
          exact ⟨none, 0, 0, rfl, Reads.none_, Nat.le_refl _, by unfold maxLen; omega, set3_below _ _ _ q8 (by simp)⟩
        · replace hr3 := hid_mk hr3
          go_wp2_with fail
          rw [logV_mk l.base l.bt rs']
          refine (Right_any ⟨l.base, l.bt, rs'⟩ _ _ _ _ (by omega) (hR8.to (by go_grown))).mono ?_
          rw [hr3.out]
          rintro e w8 ⟨rfl, hb⟩
          have q8 := (after (w := w) hb (by go_grown)).1
          replace hY7 := hid_mk (hY7.out.keep (after hb (by go_grown)).1)
          replace hX7 := hid_mk (hX7.out.keep (after hb (by go_grown)).1)
          replace hR8 := hR8.to (after hb (by go_grown)).1
          clear hgx x0 x1 x2 f0 f1 f2 hgy y0 y1 y2 e0 e1 e2
          obtain ⟨hgx, x0, x1, x2, f0, f1, f2⟩ := blk3f hX7.out
          obtain ⟨hgy, y0, y1, y2, e0, e1, e2⟩ := blk3f hY7.out
          have hs8 := hb.size; try simp only [World.size_alloc] at hs8; clear hb
          go_wp2_with fail
          rw [logV_mk l.base l.bt rs']
          refine (own_any ⟨l.base, l.bt, rs'⟩ A6 N c6 _ (B := B) (by first | omega | (simp; omega)) (by omega) hc61 (hR8.to (by go_grown))).mono ?_
          rintro e w9 ⟨A3, n3, c3, rfl, hR3, h31, h32, hb⟩
          have q9 := (after (w := w) hb (by go_grown)).1
          replace hY7 := hid_mk (hY7.out.keep (after hb (by go_grown)).1)
          clear hgx x0 x1 x2 f0 f1 f2 hgy y0 y1 y2 e0 e1 e2
          obtain ⟨hgy, y0, y1, y2, e0, e1, e2⟩ := blk3f hY7.out
          unfold logV
          have hs9 := hb.size; try simp only [World.size_alloc] at hs9; clear hb
          go_wp2
          have hY2 := hY7.out
          try simp only [Exit.inBlock, Exit.then]
          refine ends_ret hQ (v := .tuple #[.agg #[.int .i64 l.base, .int .i64 l.bt, .slice A3 n3 c3], .int .i64 (max l.base (at' + n')), .bool true, .int .i64 0]) (by simp [results, Tryz.results97, go_sem, y0, y1, y2]) rfl ?_
          rw [hz2.out, if_neg g200, if_pos hr3.out]
          exact ⟨A3, n3, c3, rfl, set3_reads hY2 _ _ _ (by omega) (by decide) hR3, h31, h32, set3_below _ _ _ q9 (by simp)⟩
    · have he := hid_mk (h'.end_ hlt)
      have hfd : Hid (fdJ l at' 0 more = none) := by rw [Hid, hn.out, he.out]; rfl
      have hz2 : Hid (mg = ⟨l, max l.base (at' + n'), true, 0⟩) := by unfold Hid; rw [hz.out, hfd.out, hlen'.out]
      clear hn hfd he
      go_wp2_with fail
      try rw [← logV_eq]
      refine (own_any l A n cap _ (B := B) (by first | omega | (simp; omega)) (by omega) hcap (h.to (by go_grown))).mono ?_
      rintro e w5 ⟨A3, n3, c3, rfl, hR3, h31, h32, hb⟩
      have q5 := (after (w := w) hb (by go_grown)).1
      replace hY := hid_mk (hY.out.keep (after hb (by go_grown)).1)
      clear hgx x0 x1 x2 hgy y0 y1 y2 e0 e1 e2 hgv v0 v1 v2
      obtain ⟨hgy, y0, y1, y2, e0, e1, e2⟩ := blk3f hY.out
      rw [World.size_alloc] at hgy y0 y1 y2 e0 e1 e2
      unfold logV
      have hs5 := hb.size; try simp only [World.size_alloc] at hs5; clear hb
      go_wp2
      have hY2 := hY.out
      rw [World.size_alloc] at hY2
      try simp only [Exit.inBlock, Exit.then]
      refine ends_ret hQ (v := .tuple #[.agg #[.int .i64 l.base, .int .i64 l.bt, .slice A3 n3 c3], .int .i64 (max l.base (at' + n')), .bool true, .int .i64 0]) (by simp [results, Tryz.results97, go_sem, y0, y1, y2]) rfl ?_
      rw [hz2.out]
      exact ⟨A3, n3, c3, rfl, set3_reads hY2 _ _ _ (by omega) (by decide) hR3, h31, h32, set3_below _ _ _ q5 (by simp)⟩
end Go.Proofs.YtncdjmpdbinanaaGreatDoor
