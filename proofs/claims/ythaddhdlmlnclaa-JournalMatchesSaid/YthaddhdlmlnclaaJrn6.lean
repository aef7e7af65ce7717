/-
  WHAT IS PROVED HERE: the walk of the law JournalCuts: it returns true and writes nothing that was there. Conditions: slices of at most 2^42 records.
-/
import Derived.Test.YthaddhdlmlnclaaJrn5
namespace Go.Proofs.Ythaddhdlmlnclaa
open Go.RowKit

theorem compact_len (l : Lg) (to : Int) : (compactJ l to).1.rs.length ≤ l.rs.length := by
  unfold compactJ
  split
  · split
    · simp [zeroL]
    · simp
  · simp [zeroL]
theorem adopt_len (l : Lg) (at' term : Int) : (adoptJ l at' term).rs.length ≤ l.rs.length := by
  unfold adoptJ
  split
  · split
    · exact Nat.le_refl _
    · split
      · split
        · exact compact_len l at'
        · simp
      · simp
  · simp [zeroL]
set_option maxHeartbeats 3200000 in
theorem LawCuts_any (l : Lg) (to at' term : Int) (A : Option Addr) (n cap : Nat) (w : World) {B : Nat} (hB : B ≤ w.heap.size) (hm : n ≤ 4398046511103) (hcap : n ≤ cap) (hmax : cap ≤ maxLen) (h : Recs w B A n l.rs) :
    Calls Try.prog 4 #[logV l A n cap, .int .i64 to, .int .i64 at', .int .i64 term] w fun e w' => e = .returned (.bool true) ∧ Below w.heap.size w w' := by
  have hlen := hid_mk h.len
  have hX := hid_mk (Blk.new w 24 #[.int .i64 l.base, .int .i64 l.bt, .slice A n cap])
  obtain ⟨a, ha⟩ : ∃ a, (compactJ l to).1 = a := ⟨_, rfl⟩
  obtain ⟨ea, hea⟩ : ∃ ea, (compactJ l to).2 = ea := ⟨_, rfl⟩
  obtain ⟨b, hb0⟩ : ∃ b, adoptJ l at' term = b := ⟨_, rfl⟩
  have hLa : a.rs.length ≤ l.rs.length := by rw [← ha]; exact compact_len l to
  have hLb : b.rs.length ≤ l.rs.length := by rw [← hb0]; exact adopt_len l at' term
  have hln := hlen.out
  have hLa' : a.rs.length ≤ 4398046511103 := by omega
  have hLb' : b.rs.length ≤ 4398046511103 := by omega
  clear hln hLa hLb
  cases hr : rightJ l
  · have ea1 : a = zeroL := by rw [← ha]; unfold compactJ; rw [hr]; rfl
    have ea2 : ea = 1 := by rw [← hea]; unfold compactJ; rw [hr]; rfl
    have eb1 : b = zeroL := by rw [← hb0]; unfold adoptJ; rw [hr]; rfl
    replace hr := hid_mk hr
    replace ha := hid_mk ha
    replace hea := hid_mk hea
    replace hb0 := hid_mk hb0
    subst ea2
    replace ea1 := hid_mk ea1
    replace eb1 := hid_mk eb1
    rw [logV_eq]
    go_enter Try.func4, Try.ntmps4
    go_wp2_with fail
    try rw [← logV_eq]
    refine (Compact_any l to A n cap _ (B := B) (by simp; omega) (by omega) hcap (h.to (by go_grown))).mono ?_
    rw [ha.out, hea.out]
    rintro e w1 ⟨A1, n1, c1, rfl, hRa, h11, h12, hb⟩
    have q1 := (after (w := w) hb (by go_grown)).1
    replace hX := hid_mk (hX.out.keep (after hb (by go_grown)).1)
    obtain ⟨hgx, x0, x1, x2⟩ := blk3 hX.out
    replace hRa := hid_mk hRa
    have hA := hid_mk (Blk.new w1 24 #[.int .i64 a.base, .int .i64 a.bt, .slice A1 n1 c1])
    have hs1 := hb.size; try simp only [World.size_alloc] at hs1; clear hb
    replace hX := hid_mk (hX.out.alloc (.cells #[.int .i64 a.base, .int .i64 a.bt, .slice A1 n1 c1] 24))
    unfold logV
    go_wp2_with fail
    try rw [← logV_eq]
    refine (Adopt_any l at' term A n cap _ (B := B) (by simp; omega) (by omega) hcap (h.to (by go_grown))).mono ?_
    rw [hb0.out]
    rintro e w2 ⟨A2, n2, c2, rfl, hRb, h21, h22, hb⟩
    have q2 := (after (w := w) hb (by go_grown)).1
    replace hX := hid_mk (hX.out.keep (after hb (by go_grown)).1)
    replace hA := hid_mk (hA.out.keep (after hb (by go_grown)).1)
    replace hRa := hid_mk (hRa.out.to (after hb (by go_grown)).1)
    clear hgx x0 x1 x2
    obtain ⟨hgx, x0, x1, x2⟩ := blk3 hX.out
    obtain ⟨hga, a0, a1, a2⟩ := blk3 hA.out
    replace hRb := hid_mk hRb
    have hB2 := hid_mk (Blk.new w2 24 #[.int .i64 b.base, .int .i64 b.bt, .slice A2 n2 c2])
    replace hX := hid_mk (hX.out.alloc (.cells #[.int .i64 b.base, .int .i64 b.bt, .slice A2 n2 c2] 24))
    replace hA := hid_mk (hA.out.alloc (.cells #[.int .i64 b.base, .int .i64 b.bt, .slice A2 n2 c2] 24))
    have hs2 := hb.size; try simp only [World.size_alloc] at hs2; clear hb
    unfold logV
    go_wp2_with fail
    try rw [← logV_eq]
    refine (refRight_any l _ _ _ _ (by omega) (h.to (by go_grown))).mono ?_
    rw [hr.out]
    rintro e w3 ⟨rfl, hb⟩
    have q3 := (after (w := w) hb (by go_grown)).1
    replace hX := hid_mk (hX.out.keep (after hb (by go_grown)).1)
    replace hA := hid_mk (hA.out.keep (after hb (by go_grown)).1)
    replace hB2 := hid_mk (hB2.out.keep (after hb (by go_grown)).1)
    replace hRa := hid_mk (hRa.out.to (after hb (by go_grown)).1)
    replace hRb := hid_mk (hRb.out.to (after hb (by go_grown)).1)
    clear hgx x0 x1 x2 hga a0 a1 a2
    obtain ⟨hgx, x0, x1, x2⟩ := blk3 hX.out
    obtain ⟨hga, a0, a1, a2⟩ := blk3 hA.out
    obtain ⟨hgb, b0, b1, b2⟩ := blk3 hB2.out
    have hs3 := hb.size; try simp only [World.size_alloc] at hs3; clear hb
    go_wp2_with fail
    refine (alive_any _).mono ?_
    rintro e w4 ⟨rfl, hb⟩
    have q4 := (after (w := w) hb (by go_grown)).1
    replace hX := hid_mk (hX.out.keep (after hb (by go_grown)).1)
    replace hA := hid_mk (hA.out.keep (after hb (by go_grown)).1)
    replace hB2 := hid_mk (hB2.out.keep (after hb (by go_grown)).1)
    replace hRa := hid_mk (hRa.out.to (after hb (by go_grown)).1)
    replace hRb := hid_mk (hRb.out.to (after hb (by go_grown)).1)
    clear hgx x0 x1 x2 hga a0 a1 a2 hgb b0 b1 b2
    obtain ⟨hgx, x0, x1, x2⟩ := blk3 hX.out
    obtain ⟨hga, a0, a1, a2⟩ := blk3 hA.out
    obtain ⟨hgb, b0, b1, b2⟩ := blk3 hB2.out
    have hs4 := hb.size; try simp only [World.size_alloc] at hs4; clear hb
    go_wp2_with fail
    rw [logV_mk a.base a.bt a.rs, logV_mk 0 0 []]
    refine (Like_any ⟨a.base, a.bt, a.rs⟩ ⟨0, 0, []⟩ A1 n1 c1 none 0 0 _ (B := B) (by have := hRa.out.len; omega) (by omega) (hRa.out.to (by go_grown)) Reads.none_).mono ?_
    rw [show likeJ ⟨a.base, a.bt, a.rs⟩ ⟨0, 0, []⟩ = true from likeJ_eq.2 ea1.out]
    rintro e w5 ⟨rfl, hb⟩
    have q5 := (after (w := w) hb (by go_grown)).1
    replace hX := hid_mk (hX.out.keep (after hb (by go_grown)).1)
    replace hA := hid_mk (hA.out.keep (after hb (by go_grown)).1)
    replace hB2 := hid_mk (hB2.out.keep (after hb (by go_grown)).1)
    replace hRa := hid_mk (hRa.out.to (after hb (by go_grown)).1)
    replace hRb := hid_mk (hRb.out.to (after hb (by go_grown)).1)
    clear hgx x0 x1 x2 hga a0 a1 a2 hgb b0 b1 b2
    obtain ⟨hgx, x0, x1, x2⟩ := blk3 hX.out
    obtain ⟨hga, a0, a1, a2⟩ := blk3 hA.out
    obtain ⟨hgb, b0, b1, b2⟩ := blk3 hB2.out
    have hs5 := hb.size; try simp only [World.size_alloc] at hs5; clear hb
    go_wp2_with fail
    rw [logV_mk b.base b.bt b.rs, logV_mk 0 0 []]
    refine (Like_any ⟨b.base, b.bt, b.rs⟩ ⟨0, 0, []⟩ A2 n2 c2 none 0 0 _ (B := B) (by have := hRb.out.len; omega) (by omega) (hRb.out.to (by go_grown)) Reads.none_).mono ?_
    rw [show likeJ ⟨b.base, b.bt, b.rs⟩ ⟨0, 0, []⟩ = true from likeJ_eq.2 eb1.out]
    rintro e w6 ⟨rfl, hb⟩
    have q6 := (after (w := w) hb (by go_grown)).1
    replace hX := hid_mk (hX.out.keep (after hb (by go_grown)).1)
    replace hA := hid_mk (hA.out.keep (after hb (by go_grown)).1)
    replace hB2 := hid_mk (hB2.out.keep (after hb (by go_grown)).1)
    replace hRa := hid_mk (hRa.out.to (after hb (by go_grown)).1)
    replace hRb := hid_mk (hRb.out.to (after hb (by go_grown)).1)
    clear hgx x0 x1 x2 hga a0 a1 a2 hgb b0 b1 b2
    obtain ⟨hgx, x0, x1, x2⟩ := blk3 hX.out
    obtain ⟨hga, a0, a1, a2⟩ := blk3 hA.out
    obtain ⟨hgb, b0, b1, b2⟩ := blk3 hB2.out
    have hs6 := hb.size; try simp only [World.size_alloc] at hs6; clear hb
    go_wp2
    go_ret
    exact ⟨rfl, q6⟩
  · have hbd := right_bounds hr
    have hnn := termJ_nonneg hr to
    have eb1 : ∀ r2, rightJ ⟨at', term, []⟩ = r2 → b = if r2 then adoptJ l at' term else zeroL := by
      intro r2 h2; rw [← hb0]; cases r2
      · unfold adoptJ; rw [hr, h2]; rfl
      · rfl
    cases hta : termJ l to
    case' none =>
      have ea1 : a = zeroL := by rw [← ha]; unfold compactJ; rw [hr, hta]; rfl
      have ea2 : ea = 150 := by rw [← hea]; unfold compactJ; rw [hr, hta]; rfl
      have hr' := hid_mk hr
      replace hr := hid_mk hr
      replace ha := hid_mk ha
      replace hea := hid_mk hea
      have hb1 := hid_mk hb0
      replace hb0 := hid_mk hb0
      subst ea2
      replace ea1 := hid_mk ea1
      replace eb1 := hid_mk eb1
      replace hta := hid_mk hta
      clear hnn
      rw [logV_eq]
      go_enter Try.func4, Try.ntmps4
      go_wp2_with fail
      try rw [← logV_eq]
      refine (Compact_any l to A n cap _ (B := B) (by simp; omega) (by omega) hcap (h.to (by go_grown))).mono ?_
      rw [ha.out, hea.out]
      rintro e w1 ⟨A1, n1, c1, rfl, hRa, h11, h12, hb⟩
      have q1 := (after (w := w) hb (by go_grown)).1
      replace hX := hid_mk (hX.out.keep (after hb (by go_grown)).1)
      obtain ⟨hgx, x0, x1, x2⟩ := blk3 hX.out
      replace hRa := hid_mk hRa
      have hA := hid_mk (Blk.new w1 24 #[.int .i64 a.base, .int .i64 a.bt, .slice A1 n1 c1])
      have hs1 := hb.size; try simp only [World.size_alloc] at hs1; clear hb
      replace hX := hid_mk (hX.out.alloc (.cells #[.int .i64 a.base, .int .i64 a.bt, .slice A1 n1 c1] 24))
      unfold logV
      go_wp2_with fail
      try rw [← logV_eq]
      refine (Adopt_any l at' term A n cap _ (B := B) (by simp; omega) (by omega) hcap (h.to (by go_grown))).mono ?_
      rw [hb0.out]
      rintro e w2 ⟨A2, n2, c2, rfl, hRb, h21, h22, hb⟩
      have q2 := (after (w := w) hb (by go_grown)).1
      replace hX := hid_mk (hX.out.keep (after hb (by go_grown)).1)
      replace hA := hid_mk (hA.out.keep (after hb (by go_grown)).1)
      replace hRa := hid_mk (hRa.out.to (after hb (by go_grown)).1)
      clear hgx x0 x1 x2
      obtain ⟨hgx, x0, x1, x2⟩ := blk3 hX.out
      obtain ⟨hga, a0, a1, a2⟩ := blk3 hA.out
      replace hRb := hid_mk hRb
      have hB2 := hid_mk (Blk.new w2 24 #[.int .i64 b.base, .int .i64 b.bt, .slice A2 n2 c2])
      replace hX := hid_mk (hX.out.alloc (.cells #[.int .i64 b.base, .int .i64 b.bt, .slice A2 n2 c2] 24))
      replace hA := hid_mk (hA.out.alloc (.cells #[.int .i64 b.base, .int .i64 b.bt, .slice A2 n2 c2] 24))
      have hs2 := hb.size; try simp only [World.size_alloc] at hs2; clear hb
      unfold logV
      go_wp2_with fail
      try rw [← logV_eq]
      refine (refRight_any l _ _ _ _ (by omega) (h.to (by go_grown))).mono ?_
      rw [hr.out]
      rintro e w3 ⟨rfl, hb⟩
      have q3 := (after (w := w) hb (by go_grown)).1
      replace hX := hid_mk (hX.out.keep (after hb (by go_grown)).1)
      replace hA := hid_mk (hA.out.keep (after hb (by go_grown)).1)
      replace hB2 := hid_mk (hB2.out.keep (after hb (by go_grown)).1)
      replace hRa := hid_mk (hRa.out.to (after hb (by go_grown)).1)
      replace hRb := hid_mk (hRb.out.to (after hb (by go_grown)).1)
      clear hgx x0 x1 x2 hga a0 a1 a2
      obtain ⟨hgx, x0, x1, x2⟩ := blk3 hX.out
      obtain ⟨hga, a0, a1, a2⟩ := blk3 hA.out
      obtain ⟨hgb, b0, b1, b2⟩ := blk3 hB2.out
      have hs3 := hb.size; try simp only [World.size_alloc] at hs3; clear hb
      go_wp2_with fail
      try rw [← logV_eq]
      refine (refTerm_any l _ _ _ _ _ (by omega) (h.to (by go_grown)) hbd.1 hbd.2.1).mono ?_
      rw [hta.out, Option.getD_none]
      rintro e w4 ⟨rfl, hb⟩
      have q4 := (after (w := w) hb (by go_grown)).1
      replace hX := hid_mk (hX.out.keep (after hb (by go_grown)).1)
      replace hA := hid_mk (hA.out.keep (after hb (by go_grown)).1)
      replace hB2 := hid_mk (hB2.out.keep (after hb (by go_grown)).1)
      replace hRa := hid_mk (hRa.out.to (after hb (by go_grown)).1)
      replace hRb := hid_mk (hRb.out.to (after hb (by go_grown)).1)
      clear hgx x0 x1 x2 hga a0 a1 a2 hgb b0 b1 b2
      obtain ⟨hgx, x0, x1, x2⟩ := blk3 hX.out
      obtain ⟨hga, a0, a1, a2⟩ := blk3 hA.out
      obtain ⟨hgb, b0, b1, b2⟩ := blk3 hB2.out
      have hs4 := hb.size; try simp only [World.size_alloc] at hs4; clear hb
      go_wp2_with fail
      rw [logV_mk a.base a.bt a.rs, logV_mk 0 0 []]
      refine (Like_any ⟨a.base, a.bt, a.rs⟩ ⟨0, 0, []⟩ A1 n1 c1 none 0 0 _ (B := B) (by have := hRa.out.len; omega) (by omega) (hRa.out.to (by go_grown)) Reads.none_).mono ?_
      rw [show likeJ ⟨a.base, a.bt, a.rs⟩ ⟨0, 0, []⟩ = true from likeJ_eq.2 ea1.out]
      rintro e w5 ⟨rfl, hb⟩
      have q5 := (after (w := w) hb (by go_grown)).1
      replace hX := hid_mk (hX.out.keep (after hb (by go_grown)).1)
      replace hA := hid_mk (hA.out.keep (after hb (by go_grown)).1)
      replace hB2 := hid_mk (hB2.out.keep (after hb (by go_grown)).1)
      replace hRa := hid_mk (hRa.out.to (after hb (by go_grown)).1)
      replace hRb := hid_mk (hRb.out.to (after hb (by go_grown)).1)
      clear hgx x0 x1 x2 hga a0 a1 a2 hgb b0 b1 b2
      obtain ⟨hgx, x0, x1, x2⟩ := blk3 hX.out
      obtain ⟨hga, a0, a1, a2⟩ := blk3 hA.out
      obtain ⟨hgb, b0, b1, b2⟩ := blk3 hB2.out
      have hs5 := hb.size; try simp only [World.size_alloc] at hs5; clear hb
      go_wp2_with fail
    case' some t0 =>
      have ht0 : 0 ≤ t0 := hnn t0 hta
      have ea1 : a = ⟨to, t0, l.rs.drop (to - l.base).toNat⟩ := by rw [← ha]; unfold compactJ; rw [hr, hta]; rfl
      have ea2 : ea = 0 := by rw [← hea]; unfold compactJ; rw [hr, hta]; rfl
      have hr' := hid_mk hr
      replace hr := hid_mk hr
      replace ha := hid_mk ha
      replace hea := hid_mk hea
      have hb1 := hid_mk hb0
      replace hb0 := hid_mk hb0
      subst ea2
      replace ea1 := hid_mk ea1
      replace eb1 := hid_mk eb1
      replace hta := hid_mk hta
      clear hnn
      rw [logV_eq]
      go_enter Try.func4, Try.ntmps4
      go_wp2_with fail
      try rw [← logV_eq]
      refine (Compact_any l to A n cap _ (B := B) (by simp; omega) (by omega) hcap (h.to (by go_grown))).mono ?_
      rw [ha.out, hea.out]
      rintro e w1 ⟨A1, n1, c1, rfl, hRa, h11, h12, hb⟩
      have q1 := (after (w := w) hb (by go_grown)).1
      replace hX := hid_mk (hX.out.keep (after hb (by go_grown)).1)
      obtain ⟨hgx, x0, x1, x2⟩ := blk3 hX.out
      replace hRa := hid_mk hRa
      have hA := hid_mk (Blk.new w1 24 #[.int .i64 a.base, .int .i64 a.bt, .slice A1 n1 c1])
      have hs1 := hb.size; try simp only [World.size_alloc] at hs1; clear hb
      replace hX := hid_mk (hX.out.alloc (.cells #[.int .i64 a.base, .int .i64 a.bt, .slice A1 n1 c1] 24))
      unfold logV
      go_wp2_with fail
      try rw [← logV_eq]
      refine (Adopt_any l at' term A n cap _ (B := B) (by simp; omega) (by omega) hcap (h.to (by go_grown))).mono ?_
      rw [hb0.out]
      rintro e w2 ⟨A2, n2, c2, rfl, hRb, h21, h22, hb⟩
      have q2 := (after (w := w) hb (by go_grown)).1
      replace hX := hid_mk (hX.out.keep (after hb (by go_grown)).1)
      replace hA := hid_mk (hA.out.keep (after hb (by go_grown)).1)
      replace hRa := hid_mk (hRa.out.to (after hb (by go_grown)).1)
      clear hgx x0 x1 x2
      obtain ⟨hgx, x0, x1, x2⟩ := blk3 hX.out
      obtain ⟨hga, a0, a1, a2⟩ := blk3 hA.out
      replace hRb := hid_mk hRb
      have hB2 := hid_mk (Blk.new w2 24 #[.int .i64 b.base, .int .i64 b.bt, .slice A2 n2 c2])
      replace hX := hid_mk (hX.out.alloc (.cells #[.int .i64 b.base, .int .i64 b.bt, .slice A2 n2 c2] 24))
      replace hA := hid_mk (hA.out.alloc (.cells #[.int .i64 b.base, .int .i64 b.bt, .slice A2 n2 c2] 24))
      have hs2 := hb.size; try simp only [World.size_alloc] at hs2; clear hb
      unfold logV
      go_wp2_with fail
      try rw [← logV_eq]
      refine (refRight_any l _ _ _ _ (by omega) (h.to (by go_grown))).mono ?_
      rw [hr.out]
      rintro e w3 ⟨rfl, hb⟩
      have q3 := (after (w := w) hb (by go_grown)).1
      replace hX := hid_mk (hX.out.keep (after hb (by go_grown)).1)
      replace hA := hid_mk (hA.out.keep (after hb (by go_grown)).1)
      replace hB2 := hid_mk (hB2.out.keep (after hb (by go_grown)).1)
      replace hRa := hid_mk (hRa.out.to (after hb (by go_grown)).1)
      replace hRb := hid_mk (hRb.out.to (after hb (by go_grown)).1)
      clear hgx x0 x1 x2 hga a0 a1 a2
      obtain ⟨hgx, x0, x1, x2⟩ := blk3 hX.out
      obtain ⟨hga, a0, a1, a2⟩ := blk3 hA.out
      obtain ⟨hgb, b0, b1, b2⟩ := blk3 hB2.out
      have hs3 := hb.size; try simp only [World.size_alloc] at hs3; clear hb
      go_wp2_with fail
      try rw [← logV_eq]
      refine (refTerm_any l _ _ _ _ _ (by omega) (h.to (by go_grown)) hbd.1 hbd.2.1).mono ?_
      rw [hta.out, Option.getD_some]
      rintro e w4 ⟨rfl, hb⟩
      have q4 := (after (w := w) hb (by go_grown)).1
      replace hX := hid_mk (hX.out.keep (after hb (by go_grown)).1)
      replace hA := hid_mk (hA.out.keep (after hb (by go_grown)).1)
      replace hB2 := hid_mk (hB2.out.keep (after hb (by go_grown)).1)
      replace hRa := hid_mk (hRa.out.to (after hb (by go_grown)).1)
      replace hRb := hid_mk (hRb.out.to (after hb (by go_grown)).1)
      clear hgx x0 x1 x2 hga a0 a1 a2 hgb b0 b1 b2
      obtain ⟨hgx, x0, x1, x2⟩ := blk3 hX.out
      obtain ⟨hga, a0, a1, a2⟩ := blk3 hA.out
      obtain ⟨hgb, b0, b1, b2⟩ := blk3 hB2.out
      have hs4 := hb.size; try simp only [World.size_alloc] at hs4; clear hb
      go_wp2_with fail
      go_region_held3 (fun w' => w'.cell? ⟨w.heap.size, 0, none⟩ = some (.int .i64 l.base) ∧ w'.cell? ⟨w.heap.size, 1, none⟩ = some (.int .i64 l.bt) ∧ w'.cell? ⟨w.heap.size, 2, none⟩ = some (.slice A n cap) ∧ w'.cell? ⟨w1.heap.size, 0, none⟩ = some (.int .i64 a.base) ∧ w'.cell? ⟨w1.heap.size, 1, none⟩ = some (.int .i64 a.bt) ∧ w'.cell? ⟨w1.heap.size, 2, none⟩ = some (.slice A1 n1 c1)) ((first | (refine ⟨?_, ?_, ?_, ?_, ?_, ?_⟩ <;> assumption) | go_keep)) (first | (go_at_call 24; refine (refFrom_any l to t0 A n cap _ (B := B) (by first | omega | (simp; omega)) (by omega) (h.to (by go_grown)) hbd.1 hbd.2.1 hta.out).mono ?_; rintro e w5 ⟨A3, n3, c3, rfl, hR3, h31, h32, hb⟩; have q5 := (after (w := w) hb (by go_grown)).1; replace hX := hid_mk (hX.out.keep (after hb (by go_grown)).1); replace hA := hid_mk (hA.out.keep (after hb (by go_grown)).1); replace hB2 := hid_mk (hB2.out.keep (after hb (by go_grown)).1); replace hRa := hid_mk (hRa.out.to (after hb (by go_grown)).1); replace hRb := hid_mk (hRb.out.to (after hb (by go_grown)).1); clear hgx x0 x1 x2 hga a0 a1 a2 hgb b0 b1 b2; obtain ⟨hgx, x0, x1, x2⟩ := blk3 hX.out; obtain ⟨hga, a0, a1, a2⟩ := blk3 hA.out; obtain ⟨hgb, b0, b1, b2⟩ := blk3 hB2.out; replace hR3 := hid_mk hR3; have hs5 := hb.size; clear hb) | (go_at_call 23; refine (Like_any a ⟨to, t0, l.rs.drop (to - l.base).toNat⟩ A1 n1 c1 A3 n3 c3 _ (B := B) (by have := hRa.out.len; omega) (by have := hR3.out.len; have := hlen.out; simp at *; omega) (hRa.out.to (by go_grown)) (hR3.out.to (by go_grown))).mono ?_; rw [show likeJ a ⟨to, t0, l.rs.drop (to - l.base).toNat⟩ = true from likeJ_eq.2 ea1.out]; rintro e w6 ⟨rfl, hb⟩; have q6 := (after (w := w) hb (by go_grown)).1; replace hX := hid_mk (hX.out.keep (after hb (by go_grown)).1); replace hA := hid_mk (hA.out.keep (after hb (by go_grown)).1); replace hB2 := hid_mk (hB2.out.keep (after hb (by go_grown)).1); replace hRa := hid_mk (hRa.out.to (after hb (by go_grown)).1); replace hRb := hid_mk (hRb.out.to (after hb (by go_grown)).1); clear hgx x0 x1 x2 hga a0 a1 a2 hgb b0 b1 b2; obtain ⟨hgx, x0, x1, x2⟩ := blk3 hX.out; obtain ⟨hga, a0, a1, a2⟩ := blk3 hA.out; obtain ⟨hgb, b0, b1, b2⟩ := blk3 hB2.out; have hs6 := hb.size; clear hb))
      go_wp2_with fail
    all_goals
      cases hr2 : rightJ ⟨at', term, []⟩
      · have eb2 := hid_mk (eb1.out _ hr2)
        replace hr2 := hid_mk hr2
        rw [logV_mk at' term []]
        refine (refRight_any ⟨at', term, []⟩ none 0 0 _ (B := B) (by omega) Reads.none_).mono ?_
        rw [hr2.out]
        rintro e w7 ⟨rfl, hb⟩
        have q7 := (after (w := w) hb (by go_grown)).1
        replace hX := hid_mk (hX.out.keep (after hb (by go_grown)).1)
        replace hA := hid_mk (hA.out.keep (after hb (by go_grown)).1)
        replace hB2 := hid_mk (hB2.out.keep (after hb (by go_grown)).1)
        replace hRa := hid_mk (hRa.out.to (after hb (by go_grown)).1)
        replace hRb := hid_mk (hRb.out.to (after hb (by go_grown)).1)
        clear hgx x0 x1 x2 hga a0 a1 a2 hgb b0 b1 b2
        obtain ⟨hgx, x0, x1, x2⟩ := blk3 hX.out
        obtain ⟨hga, a0, a1, a2⟩ := blk3 hA.out
        obtain ⟨hgb, b0, b1, b2⟩ := blk3 hB2.out
        have hs7 := hb.size; try simp only [World.size_alloc] at hs7; clear hb
        go_wp2_with fail
        rw [logV_mk b.base b.bt b.rs, logV_mk 0 0 []]
        refine (Like_any ⟨b.base, b.bt, b.rs⟩ ⟨0, 0, []⟩ A2 n2 c2 none 0 0 _ (B := B) (by have := hRb.out.len; omega) (by omega) (hRb.out.to (by go_grown)) Reads.none_).mono ?_
        rw [show likeJ ⟨b.base, b.bt, b.rs⟩ ⟨0, 0, []⟩ = true from likeJ_eq.2 eb2.out]
        rintro e w8 ⟨rfl, hb⟩
        have q8 := (after (w := w) hb (by go_grown)).1
        replace hX := hid_mk (hX.out.keep (after hb (by go_grown)).1)
        replace hA := hid_mk (hA.out.keep (after hb (by go_grown)).1)
        replace hB2 := hid_mk (hB2.out.keep (after hb (by go_grown)).1)
        replace hRa := hid_mk (hRa.out.to (after hb (by go_grown)).1)
        replace hRb := hid_mk (hRb.out.to (after hb (by go_grown)).1)
        clear hgx x0 x1 x2 hga a0 a1 a2 hgb b0 b1 b2
        obtain ⟨hgx, x0, x1, x2⟩ := blk3 hX.out
        obtain ⟨hga, a0, a1, a2⟩ := blk3 hA.out
        obtain ⟨hgb, b0, b1, b2⟩ := blk3 hB2.out
        have hs8 := hb.size; try simp only [World.size_alloc] at hs8; clear hb
        go_wp2
        go_ret
        exact ⟨rfl, q8⟩
      · have hr3 := hid_mk hr2
        replace hr2 := hid_mk hr2
        rw [logV_mk at' term []]
        refine (refRight_any ⟨at', term, []⟩ none 0 0 _ (B := B) (by omega) Reads.none_).mono ?_
        rw [hr2.out]
        rintro e w7 ⟨rfl, hb⟩
        have q7 := (after (w := w) hb (by go_grown)).1
        replace hX := hid_mk (hX.out.keep (after hb (by go_grown)).1)
        replace hA := hid_mk (hA.out.keep (after hb (by go_grown)).1)
        replace hB2 := hid_mk (hB2.out.keep (after hb (by go_grown)).1)
        replace hRa := hid_mk (hRa.out.to (after hb (by go_grown)).1)
        replace hRb := hid_mk (hRb.out.to (after hb (by go_grown)).1)
        clear hgx x0 x1 x2 hga a0 a1 a2 hgb b0 b1 b2
        obtain ⟨hgx, x0, x1, x2⟩ := blk3 hX.out
        obtain ⟨hga, a0, a1, a2⟩ := blk3 hA.out
        obtain ⟨hgb, b0, b1, b2⟩ := blk3 hB2.out
        have hs7 := hb.size; try simp only [World.size_alloc] at hs7; clear hb
        go_wp2_with fail
        go_region_held3 (fun w' => w'.cell? ⟨w.heap.size, 0, none⟩ = some (.int .i64 l.base) ∧ w'.cell? ⟨w.heap.size, 1, none⟩ = some (.int .i64 l.bt) ∧ w'.cell? ⟨w.heap.size, 2, none⟩ = some (.slice A n cap) ∧ w'.cell? ⟨w2.heap.size, 0, none⟩ = some (.int .i64 b.base) ∧ w'.cell? ⟨w2.heap.size, 1, none⟩ = some (.int .i64 b.bt) ∧ w'.cell? ⟨w2.heap.size, 2, none⟩ = some (.slice A2 n2 c2)) ((first | (refine ⟨?_, ?_, ?_, ?_, ?_, ?_⟩ <;> assumption) | go_keep)) (first | (go_at_call 25; refine (refAdopt_any l at' term A n cap _ (B := B) (by first | omega | (simp; omega)) (by omega) hcap hmax (h.to (by go_grown)) hr'.out hr3.out).mono ?_; rw [hb1.out]; rintro e w8 ⟨A4, n4, c4, rfl, hR4, h41, h42, hb⟩; have q8 := (after (w := w) hb (by go_grown)).1; replace hX := hid_mk (hX.out.keep (after hb (by go_grown)).1); replace hA := hid_mk (hA.out.keep (after hb (by go_grown)).1); replace hB2 := hid_mk (hB2.out.keep (after hb (by go_grown)).1); replace hRa := hid_mk (hRa.out.to (after hb (by go_grown)).1); replace hRb := hid_mk (hRb.out.to (after hb (by go_grown)).1); clear hgx x0 x1 x2 hga a0 a1 a2 hgb b0 b1 b2; obtain ⟨hgx, x0, x1, x2⟩ := blk3 hX.out; obtain ⟨hga, a0, a1, a2⟩ := blk3 hA.out; obtain ⟨hgb, b0, b1, b2⟩ := blk3 hB2.out; replace hR4 := hid_mk hR4; have hs8 := hb.size; clear hb) | (go_at_call 23; refine (Like_any b b A2 n2 c2 A4 n4 c4 _ (B := B) (by have := hRb.out.len; omega) (by have := hR4.out.len; omega) (hRb.out.to (by go_grown)) (hR4.out.to (by go_grown))).mono ?_; rw [likeJ_self]; rintro e w9 ⟨rfl, hb⟩; have q9 := (after (w := w) hb (by go_grown)).1; replace hX := hid_mk (hX.out.keep (after hb (by go_grown)).1); replace hA := hid_mk (hA.out.keep (after hb (by go_grown)).1); replace hB2 := hid_mk (hB2.out.keep (after hb (by go_grown)).1); replace hRa := hid_mk (hRa.out.to (after hb (by go_grown)).1); replace hRb := hid_mk (hRb.out.to (after hb (by go_grown)).1); clear hgx x0 x1 x2 hga a0 a1 a2 hgb b0 b1 b2; obtain ⟨hgx, x0, x1, x2⟩ := blk3 hX.out; obtain ⟨hga, a0, a1, a2⟩ := blk3 hA.out; obtain ⟨hgb, b0, b1, b2⟩ := blk3 hB2.out; have hs9 := hb.size; clear hb))
        go_wp2
        go_ret
        exact ⟨rfl, q9⟩
theorem LawCuts_walk (l0 : Lg) (a0 : Option Addr) (len0 cap0 : Nat) {w : World} (i0 : Recs w w.heap.size a0 len0 l0.rs) (lc0 : len0 ≤ cap0) (hs0 : cap0 * 32 ≤ 140737488351232)
    (a1 : Int) (_lo1 : -9223372036854775808 ≤ a1) (_hi1 : a1 ≤ 9223372036854775807) (a2 : Int) (_lo2 : -9223372036854775808 ≤ a2) (_hi2 : a2 ≤ 9223372036854775807) (a3 : Int) (_lo3 : -9223372036854775808 ≤ a3) (_hi3 : a3 ≤ 9223372036854775807) :
    Calls Try.prog 4 #[logV l0 a0 len0 cap0, .int .i64 a1, .int .i64 a2, .int .i64 a3] w fun e w' => e = .returned (.bool true) ∧ Below w.heap.size w w' :=
  LawCuts_any _ _ _ _ _ _ _ _ (Nat.le_refl _) (by omega) lc0 (by unfold maxLen; omega) i0
end Go.Proofs.Ythaddhdlmlnclaa
