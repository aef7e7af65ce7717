/-
  WHAT IS PROVED HERE: what journal.Adopt and the reference's From and Adopt hand back. Conditions: slices of at most 2^42 records.
-/
import Derived.Test.YthaddhdlmlnclaaJrn4
namespace Go.Proofs.Ythaddhdlmlnclaa
open Go.RowKit

theorem logV_mk (x y : Int) (rs : List Rec) (A : Option Addr) (n c : Nat) : Value.agg #[.int .i64 x, .int .i64 y, .slice A n c] = logV ⟨x, y, rs⟩ A n c := rfl
theorem logV_nil (x y : Int) : Value.agg #[.int .i64 x, .int .i64 y, .slice none 0 0] = logV ⟨x, y, []⟩ none 0 0 := rfl
set_option maxHeartbeats 1600000 in
theorem Adopt_any (l : Lg) (at' term : Int) (A : Option Addr) (n cap : Nat) (w : World) {B : Nat} (hB : B ≤ w.heap.size) (hm : n ≤ 4398046511104) (hcap : n ≤ cap) (h : Recs w B A n l.rs) :
    Calls Try.prog 22 #[logV l A n cap, .int .i64 at', .int .i64 term] w (RetLog B w (adoptJ l at' term)) := by
  have hlen := hid_mk h.len
  have hX := hid_mk ((Blk.new w 24 #[.int .i64 l.base, .int .i64 l.bt, .slice A n cap]).alloc (.cells #[.int .i64 0, .int .i64 0, .slice none 0 0] 24))
  have hY := hid_mk (Blk.new (w.alloc (.cells #[.int .i64 l.base, .int .i64 l.bt, .slice A n cap] 24)) 24 #[.int .i64 0, .int .i64 0, .slice none 0 0])
  have hnilR : ∀ W, Recs W B none 0 [] := fun _ => Reads.none_
  replace hnilR := hid_mk hnilR
  cases hr : rightJ l
  · have hz : Hid (adoptJ l at' term = zeroL) := by unfold Hid adoptJ; rw [hr]; rfl
    replace hr := hid_mk hr
    rw [hz.out, logV_eq]
    go_enter Try.func22, Try.ntmps22
    go_wp2_with fail
    try rw [← logV_eq]
    refine (Right_any l _ _ _ _ (by omega) (h.to (by go_grown))).mono ?_
    rw [hr.out]
    rintro e w1 ⟨rfl, hb⟩
    have q1 := (after (w := w) hb (by go_grown)).1
    replace hY := hid_mk (hY.out.keep (after hb (by go_grown)).1)
    obtain ⟨hg, y0, y1, y2, z0, z1, z2⟩ := blk3f hY.out
    rw [World.size_alloc] at hg y0 y1 y2 z0 z1 z2
    have hs1 := hb.size; try simp only [World.size_alloc] at hs1; clear hb
    go_wp2
    refine bodyPost_ret (v := .agg #[.int .i64 0, .int .i64 0, .slice none 0 0]) (by simp [results, Try.results22, go_sem, y0, y1, y2]) rfl ?_
    exact ⟨none, 0, 0, rfl, Reads.none_, Nat.le_refl _, by unfold maxLen; omega, set3_below _ _ _ q1 (by simp)⟩
  cases hr2 : rightJ ⟨at', term, []⟩
  · have hz : Hid (adoptJ l at' term = zeroL) := by unfold Hid adoptJ; rw [hr, hr2]; rfl
    replace hr := hid_mk hr
    replace hr2 := hid_mk hr2
    rw [hz.out, logV_eq]
    go_enter Try.func22, Try.ntmps22
    go_wp2_with fail
    try rw [← logV_eq]
    refine (Right_any l _ _ _ _ (by omega) (h.to (by go_grown))).mono ?_
    rw [hr.out]
    rintro e w1 ⟨rfl, hb⟩
    have q1 := (after (w := w) hb (by go_grown)).1
    replace hY := hid_mk (hY.out.keep (after hb (by go_grown)).1)
    have hs1 := hb.size; try simp only [World.size_alloc] at hs1; clear hb
    go_wp2_with fail
    rw [logV_nil]
    refine (Right_any ⟨at', term, []⟩ _ _ _ _ (by omega) (hnilR.out _)).mono ?_
    rw [hr2.out]
    rintro e w2 ⟨rfl, hb⟩
    have q2 := (after (w := w) hb (by go_grown)).1
    replace hY := hid_mk (hY.out.keep (after hb (by go_grown)).1)
    obtain ⟨hg, y0, y1, y2, z0, z1, z2⟩ := blk3f hY.out
    rw [World.size_alloc] at hg y0 y1 y2 z0 z1 z2
    have hs2 := hb.size; try simp only [World.size_alloc] at hs2; clear hb
    go_wp2
    refine bodyPost_ret (v := .agg #[.int .i64 0, .int .i64 0, .slice none 0 0]) (by simp [results, Try.results22, go_sem, y0, y1, y2]) rfl ?_
    exact ⟨none, 0, 0, rfl, Reads.none_, Nat.le_refl _, by unfold maxLen; omega, set3_below _ _ _ q2 (by simp)⟩
  have hbd := right_bounds hr
  by_cases g : at' ≤ l.base
  · have hz : Hid (adoptJ l at' term = l) := by unfold Hid adoptJ; rw [hr, hr2]; simp [g]
    replace hr := hid_mk hr
    replace hr2 := hid_mk hr2
    rw [hz.out, logV_eq]
    go_enter Try.func22, Try.ntmps22
    go_wp2_with fail
    try rw [← logV_eq]
    refine (Right_any l _ _ _ _ (by omega) (h.to (by go_grown))).mono ?_
    rw [hr.out]
    rintro e w1 ⟨rfl, hb⟩
    have q1 := (after (w := w) hb (by go_grown)).1
    replace hX := hid_mk (hX.out.keep (after hb (by go_grown)).1)
    replace hY := hid_mk (hY.out.keep (after hb (by go_grown)).1)
    have hs1 := hb.size; try simp only [World.size_alloc] at hs1; clear hb
    go_wp2_with fail
    rw [logV_nil]
    refine (Right_any ⟨at', _, []⟩ _ _ _ _ (by omega) (hnilR.out _)).mono ?_
    rw [hr2.out]
    rintro e w2 ⟨rfl, hb⟩
    have q2 := (after (w := w) hb (by go_grown)).1
    replace hX := hid_mk (hX.out.keep (after hb (by go_grown)).1)
    replace hY := hid_mk (hY.out.keep (after hb (by go_grown)).1)
    obtain ⟨hgx, x0, x1, x2⟩ := blk3 hX.out
    have hs2 := hb.size; try simp only [World.size_alloc] at hs2; clear hb
    go_wp2_with fail
    try rw [← logV_eq]
    refine (own_any l A n cap _ (by omega) hm hcap (h.to (by go_grown))).mono ?_
    rintro e w3 ⟨A3, n3, c3, rfl, hR3, h31, h32, hb⟩
    have q3 := (after (w := w) hb (by go_grown)).1
    replace hY := hid_mk (hY.out.keep (after hb (by go_grown)).1)
    clear hgx x0 x1 x2
    obtain ⟨hg, y0, y1, y2, z0, z1, z2⟩ := blk3f hY.out
    rw [World.size_alloc] at hg y0 y1 y2 z0 z1 z2
    have hs3 := hb.size; try simp only [World.size_alloc] at hs3; clear hb
    unfold logV
    go_wp2
    refine bodyPost_ret (v := logV l A3 n3 c3) (by unfold logV; simp [results, Try.results22, go_sem, y0, y1, y2]) rfl ?_
    have hY2 := hY.out
    rw [World.size_alloc] at hY2
    exact ⟨A3, n3, c3, rfl, set3_reads hY2 _ _ _ (by omega) (by decide) hR3, h31, h32, set3_below _ _ _ q3 (by simp)⟩
  cases hta : termJ l at' with
  | none =>
    have hz : Hid (adoptJ l at' term = ⟨at', term, []⟩) := by unfold Hid adoptJ; rw [hr, hr2, hta]; simp [g]
    replace hta := hid_mk hta
    replace hr := hid_mk hr
    replace hr2 := hid_mk hr2
    rw [hz.out, logV_eq]
    go_enter Try.func22, Try.ntmps22
    go_wp2_with fail
    try rw [← logV_eq]
    refine (Right_any l _ _ _ _ (by omega) (h.to (by go_grown))).mono ?_
    rw [hr.out]
    rintro e w1 ⟨rfl, hb⟩
    have q1 := (after (w := w) hb (by go_grown)).1
    replace hX := hid_mk (hX.out.keep (after hb (by go_grown)).1)
    replace hY := hid_mk (hY.out.keep (after hb (by go_grown)).1)
    have hs1 := hb.size; try simp only [World.size_alloc] at hs1; clear hb
    go_wp2_with fail
    rw [logV_nil]
    refine (Right_any ⟨at', _, []⟩ _ _ _ _ (by omega) (hnilR.out _)).mono ?_
    rw [hr2.out]
    rintro e w2 ⟨rfl, hb⟩
    have q2 := (after (w := w) hb (by go_grown)).1
    replace hX := hid_mk (hX.out.keep (after hb (by go_grown)).1)
    replace hY := hid_mk (hY.out.keep (after hb (by go_grown)).1)
    obtain ⟨hgx, x0, x1, x2⟩ := blk3 hX.out
    have hs2 := hb.size; try simp only [World.size_alloc] at hs2; clear hb
    go_wp2_with fail
    try rw [← logV_eq]
    refine (vterm_any l _ _ _ _ _ (by omega) (h.to (by go_grown)) hbd.1 hbd.2.1).mono ?_
    rw [hta.out]
    rintro e w3 ⟨rfl, hb⟩
    have q3 := (after (w := w) hb (by go_grown)).1
    replace hY := hid_mk (hY.out.keep (after hb (by go_grown)).1)
    clear hgx x0 x1 x2
    obtain ⟨hg, y0, y1, y2, z0, z1, z2⟩ := blk3f hY.out
    rw [World.size_alloc] at hg y0 y1 y2 z0 z1 z2
    have hs3 := hb.size; try simp only [World.size_alloc] at hs3; clear hb
    go_wp2
    refine bodyPost_ret (v := .agg #[.int .i64 at', .int .i64 term, .slice none 0 0]) (by simp [results, Try.results22, go_sem, y0, y1, y2]) rfl ?_
    exact ⟨none, 0, 0, rfl, Reads.none_, Nat.le_refl _, by unfold maxLen; omega, set3_below _ _ _ q3 (by simp)⟩
  | some t =>
    by_cases ht : t = term
    case neg =>
      have ht' : (t == term) = false := by simpa using ht
      have hz : Hid (adoptJ l at' term = ⟨at', term, []⟩) := by unfold Hid adoptJ; rw [hr, hr2, hta]; simp [g, ht]
      replace hta := hid_mk hta
      replace ht := hid_mk ht
      replace hr := hid_mk hr
      replace hr2 := hid_mk hr2
      rw [hz.out, logV_eq]
      go_enter Try.func22, Try.ntmps22
      go_wp2_with fail
      try rw [← logV_eq]
      refine (Right_any l _ _ _ _ (by omega) (h.to (by go_grown))).mono ?_
      rw [hr.out]
      rintro e w1 ⟨rfl, hb⟩
      have q1 := (after (w := w) hb (by go_grown)).1
      replace hX := hid_mk (hX.out.keep (after hb (by go_grown)).1)
      replace hY := hid_mk (hY.out.keep (after hb (by go_grown)).1)
      have hs1 := hb.size; try simp only [World.size_alloc] at hs1; clear hb
      go_wp2_with fail
      rw [logV_nil]
      refine (Right_any ⟨at', _, []⟩ _ _ _ _ (by omega) (hnilR.out _)).mono ?_
      rw [hr2.out]
      rintro e w2 ⟨rfl, hb⟩
      have q2 := (after (w := w) hb (by go_grown)).1
      replace hX := hid_mk (hX.out.keep (after hb (by go_grown)).1)
      replace hY := hid_mk (hY.out.keep (after hb (by go_grown)).1)
      obtain ⟨hgx, x0, x1, x2⟩ := blk3 hX.out
      have hs2 := hb.size; try simp only [World.size_alloc] at hs2; clear hb
      go_wp2_with fail
      try rw [← logV_eq]
      refine (vterm_any l _ _ _ _ _ (by omega) (h.to (by go_grown)) hbd.1 hbd.2.1).mono ?_
      rw [hta.out]
      rintro e w3 ⟨rfl, hb⟩
      have q3 := (after (w := w) hb (by go_grown)).1
      replace hY := hid_mk (hY.out.keep (after hb (by go_grown)).1)
      clear hgx x0 x1 x2
      obtain ⟨hg, y0, y1, y2, z0, z1, z2⟩ := blk3f hY.out
      rw [World.size_alloc] at hg y0 y1 y2 z0 z1 z2
      have hs3 := hb.size; try simp only [World.size_alloc] at hs3; clear hb
      go_wp2
      refine bodyPost_ret (v := .agg #[.int .i64 at', .int .i64 term, .slice none 0 0]) (by simp [results, Try.results22, go_sem, y0, y1, y2]) rfl ?_
      exact ⟨none, 0, 0, rfl, Reads.none_, Nat.le_refl _, by unfold maxLen; omega, set3_below _ _ _ q3 (by simp)⟩
    subst ht
    have hz : Hid (adoptJ l at' t = (compactJ l at').1) := by unfold Hid adoptJ; rw [hr, hr2, hta]; simp [g]
    replace hta := hid_mk hta
    replace hr := hid_mk hr
    replace hr2 := hid_mk hr2
    rw [hz.out, logV_eq]
    go_enter Try.func22, Try.ntmps22
    go_wp2_with fail
    try rw [← logV_eq]
    refine (Right_any l _ _ _ _ (by omega) (h.to (by go_grown))).mono ?_
    rw [hr.out]
    rintro e w1 ⟨rfl, hb⟩
    have q1 := (after (w := w) hb (by go_grown)).1
    replace hX := hid_mk (hX.out.keep (after hb (by go_grown)).1)
    replace hY := hid_mk (hY.out.keep (after hb (by go_grown)).1)
    have hs1 := hb.size; try simp only [World.size_alloc] at hs1; clear hb
    go_wp2_with fail
    rw [logV_nil]
    refine (Right_any ⟨at', _, []⟩ _ _ _ _ (by omega) (hnilR.out _)).mono ?_
    rw [hr2.out]
    rintro e w2 ⟨rfl, hb⟩
    have q2 := (after (w := w) hb (by go_grown)).1
    replace hX := hid_mk (hX.out.keep (after hb (by go_grown)).1)
    replace hY := hid_mk (hY.out.keep (after hb (by go_grown)).1)
    obtain ⟨hgx, x0, x1, x2⟩ := blk3 hX.out
    have hs2 := hb.size; try simp only [World.size_alloc] at hs2; clear hb
    go_wp2_with fail
    try rw [← logV_eq]
    refine (vterm_any l _ _ _ _ _ (by omega) (h.to (by go_grown)) hbd.1 hbd.2.1).mono ?_
    rw [hta.out]
    rintro e w3 ⟨rfl, hb⟩
    have q3 := (after (w := w) hb (by go_grown)).1
    replace hX := hid_mk (hX.out.keep (after hb (by go_grown)).1)
    replace hY := hid_mk (hY.out.keep (after hb (by go_grown)).1)
    clear hgx x0 x1 x2
    obtain ⟨hgx, x0, x1, x2⟩ := blk3 hX.out
    have hs3 := hb.size; try simp only [World.size_alloc] at hs3; clear hb
    go_wp2_with fail
    try rw [← logV_eq]
    refine (Compact_any l at' A n cap _ (B := B) (by omega) (by omega) hcap (h.to (by go_grown))).mono ?_
    rintro e w4 ⟨A3, n3, c3, rfl, hR3, h31, h32, hb⟩
    have q4 := (after (w := w) hb (by go_grown)).1
    replace hY := hid_mk (hY.out.keep (after hb (by go_grown)).1)
    clear hgx x0 x1 x2
    obtain ⟨hg, y0, y1, y2, z0, z1, z2⟩ := blk3f hY.out
    rw [World.size_alloc] at hg y0 y1 y2 z0 z1 z2
    have hs4 := hb.size; try simp only [World.size_alloc] at hs4; clear hb
    unfold logV
    go_wp2
    have hY2 := hY.out
    rw [World.size_alloc] at hY2
    have hfin := set3_reads hY2 (.int .i64 (compactJ l at').1.base) (.int .i64 (compactJ l at').1.bt) (.slice A3 n3 c3) (by omega) (by decide) hR3
    have qfin := set3_below (w := w4) (g := w.heap.size + 1) (.int .i64 (compactJ l at').1.base) (.int .i64 (compactJ l at').1.bt) (.slice A3 n3 c3) q4 (by simp)
    have kfin := (set3_blk hY2 (.int .i64 (compactJ l at').1.base) (.int .i64 (compactJ l at').1.bt) (.slice A3 n3 c3)).alloc (.cells #[.int .i64 (compactJ l at').1.base, .int .i64 (compactJ l at').1.bt, .slice A3 n3 c3] 24)
    unfold set3 at kfin
    obtain ⟨_, r0, r1, r2⟩ := blk3 kfin
    refine bodyPost_ret (v := logV (compactJ l at').1 A3 n3 c3) (by unfold logV; simp [results, Try.results22, go_sem, r0, r1, r2]) rfl ?_
    exact ⟨A3, n3, c3, rfl, Recs.to hfin ((Below.refl _ _).alloc (Nat.le_refl _) _), h31, h32, qfin.alloc qfin.size _⟩
/-- the reference's loop -/
def fromR (base to : Int) (i : Nat) (out : List Rec) : List Rec → List Rec
  | [] => out
  | r :: rs => if to < base + 1 + i then fromR base to (i + 1) (out ++ [r]) rs else fromR base to (i + 1) out rs
theorem fromR_all {base to : Int} : ∀ {rs : List Rec} {i : Nat} {out : List Rec}, to < base + 1 + i → fromR base to i out rs = out ++ rs
  | [], _, out, _ => by simp [fromR]
  | r :: rs, i, out, h => by unfold fromR; rw [if_pos h, fromR_all (by omega)]; simp
theorem fromR_eq {base to : Int} : ∀ {rs : List Rec} {i : Nat}, base + i ≤ to → fromR base to i [] rs = rs.drop (to - base - i).toNat
  | [], _, _ => by simp [fromR]
  | r :: rs, i, h => by
    by_cases e : to < base + 1 + i
    · rw [fromR_all e, show (to - base - i).toNat = 0 from by omega]; rfl
    · unfold fromR
      rw [if_neg e, fromR_eq (by omega)]
      obtain ⟨q, hq⟩ : ∃ q, (to - base - i).toNat = q + 1 := ⟨(to - base - i).toNat - 1, by omega⟩
      rw [hq, show (to - base - ((i + 1 : Nat) : Int)).toNat = q from by omega]
      simp
set_option maxHeartbeats 1600000 in
theorem refFrom_any (l : Lg) (to t : Int) (A : Option Addr) (n cap : Nat) (w : World) {B : Nat} (hB : B ≤ w.heap.size) (hm : n ≤ 4398046511103) (h : Recs w B A n l.rs) (h0 : 0 ≤ l.base) (h1 : l.base ≤ 1073741824) (ht : termJ l to = some t) :
    Calls Try.prog 24 #[logV l A n cap, .int .i64 to] w (RetLog B w ⟨to, t, l.rs.drop (to - l.base).toNat⟩) := by
  have hlen := hid_mk h.len
  have hrg := termJ_range ht
  have hX := hid_mk ((Blk.new w 24 #[.int .i64 l.base, .int .i64 l.bt, .slice A n cap]).alloc (.cells #[.int .i64 0, .int .i64 0, .slice none 0 0] 24))
  have hY := hid_mk (Blk.new (w.alloc (.cells #[.int .i64 l.base, .int .i64 l.bt, .slice A n cap] 24)) 24 #[.int .i64 0, .int .i64 0, .slice none 0 0])
  obtain ⟨i0, hi0, hz0, hz1, hz2⟩ := info_parts recInfo
  replace ht := hid_mk ht
  have hfin := hid_mk (fromR_eq (base := l.base) (to := to) (rs := l.rs) (i := 0) (by omega))
  rw [logV_eq]
  go_enter Try.func24, Try.ntmps24
  go_wp2_with fail
  try rw [← logV_eq]
  refine (refTerm_any l to A n cap _ (by omega) (h.to (by go_grown)) h0 h1).mono ?_
  rw [ht.out, Option.getD_some]
  rintro e w1 ⟨rfl, hb⟩
  have q1 := (after (w := w) hb (by go_grown)).1
  replace hX := hid_mk (hX.out.keep (after hb (by go_grown)).1)
  replace hY := hid_mk (hY.out.keep (after hb (by go_grown)).1)
  obtain ⟨hgx, x0, x1, x2⟩ := blk3 hX.out
  have hs1 := hb.size; try simp only [World.size_alloc] at hs1; clear hb
  go_wp2
  have hZ := hid_mk (Blk.new w1 24 #[.int .i64 to, .int .i64 t, .slice none 0 0])
  go_loopw [16] (fun i wr => ∃ (k : Nat) (v : Value) (out : List Rec), k ≤ n ∧ i = .int .i64 k ∧ out.length ≤ k ∧ wr.ownsRow w1.heap.size 47 3 v out.length (cellsOf out) ∧ Below w1.heap.size w1 wr ∧ Hid (Blk wr w1.heap.size 24 #[.int .i64 to, .int .i64 t, v]) ∧ Hid (fromR l.base to 0 [] l.rs = fromR l.base to k out (l.rs.drop k))) (fun i _ => n - (intOf i).toNat)
  case atStart => exact ⟨0, .slice none 0 0, [], Nat.zero_le _, rfl, Nat.zero_le _, World.ownsRow_nil _ _ _ _, (Below.refl _ _).alloc (Nat.le_refl _) _, hZ, by simp [Hid]⟩
  case round =>
    obtain ⟨k, v, out, hk, rfl, hok, hown1, hb, hZ1, hn⟩ := hrel
    have qr : Below w.heap.size w wr := q1.trans (hb.mono q1.size)
    obtain ⟨A1, cp1, rfl, hc11, hc12⟩ := own_slice hown1
    have hX1 := hid_mk (hX.out.keep hb)
    clear hgx x0 x1 x2
    obtain ⟨hgx, x0, x1, x2⟩ := blk3 hX1.out
    obtain ⟨hgz, z0, z1, z2, f0, f1, f2⟩ := blk3f hZ1.out
    by_cases hlt : k < n
    · obtain ⟨b, o, r, rfl, hbb, hd, ct, ck, cd⟩ := (h.below qr).at_ hlt
      obtain ⟨rt, rk, rd⟩ := r
      dsimp only at *
      have hk40 : k ≤ 4398046511103 := by omega
      by_cases g1 : to < l.base + 1 + k
      · have hnew : Reads ((wr.alloc (.cells #[.int .i64 rt, .int .i64 rk, .string rd] 47)).alloc (.cells #[.int .i64 rt, .int .i64 rk, .string rd] 47)) B 47 3 (some ⟨wr.heap.size + 1, 0, none⟩) 1 [.int .i64 rt, .int .i64 rk, .string rd] := by
          have := reads_new (wr.alloc (.cells #[.int .i64 rt, .int .i64 rk, .string rd] 47)) #[.int .i64 rt, .int .i64 rk, .string rd] 47 1 3 B rfl
          simpa using this
        go_wp2_with (at_builtin; refine wpList_append_any _ rfl (.tmp 29) (.tmp 31) _ rfl w1.heap.size 47 i0 _ 3 32 Try.underlying22 hi0 hz0 hz1 hz2 rfl (by omega) _ out.length (cellsOf out) rfl ((hown1.alloc _).alloc _) B (some ⟨wr.heap.size + 1, 0, none⟩) 1 1 [.int .i64 rt, .int .i64 rk, .string rd] rfl hnew (rec_one [⟨rt, rk, rd⟩]) (by simp only [maxLen]; omega) (by omega) (by simp; omega) ?_; intro v1 w2 hown2 hg2 hat2; have hZ2 := hid_mk (Blk.grown ((hZ1.out.alloc (.cells #[.int .i64 rt, .int .i64 rk, .string rd] 47)).alloc (.cells #[.int .i64 rt, .int .i64 rk, .string rd] 47)) hg2 (own_ne hown1 hZ1.out)); obtain ⟨hgz2, y0, y1, y2, e0, e1, e2⟩ := blk3f hZ2.out; obtain ⟨Av, cv, rfl, hcv1, hcv2⟩ := own_slice hown2)
        have hb1 : Below w1.heap.size w1 w2 := by
          refine Below.grown ((hb.alloc hb.size _).alloc (by simp; have := hb.size; omega) _) hg2 (by simp; have := hb.size; omega) (fun k hk => ?_)
          exact (hown1.lt k hk).1
        go_roundw
        case rel =>
          refine ⟨k + 1, _, out ++ [⟨rt, rk, rd⟩], by omega, by go_num, by simp; omega, ?_, hb1.setCell (p := ⟨w1.heap.size, 2, none⟩) (Nat.le_refl _) _, hid_mk (hZ2.out.set_ 2 _), by rw [Hid, hn.out, hd.out, fromR, if_pos g1]⟩
          have := own_far hown2 hZ2.out (by decide) 2 (.slice Av (out.length + 1) cv)
          simpa [cellsOf, recCells] using this
        case measure => simp [intOf]; omega
      · go_wp2
        go_roundw
        case rel => exact ⟨k + 1, _, out, by omega, by go_num, by omega, hown1.alloc _, hb.alloc hb.size _, hid_mk (hZ1.out.alloc _), by rw [Hid, hn.out, hd.out, fromR, if_neg g1]⟩
        case measure => simp [intOf]; omega
    · have he := hid_mk (h.end_ hlt)
      have hY1 := hid_mk (hY.out.keep hb)
      obtain ⟨hgy, y0, y1, y2, e0, e1, e2⟩ := blk3f hY1.out
      rw [World.size_alloc] at hgy y0 y1 y2 e0 e1 e2
      go_wp2
      have hY2 := hY1.out
      rw [World.size_alloc] at hY2
      have kfin := set3_blk hY2 (.int .i64 to) (.int .i64 t) (.slice A1 out.length cp1)
      unfold set3 at kfin
      obtain ⟨_, r0, r1, r2⟩ := blk3 kfin
      refine bodyPost_ret (v := .agg #[.int .i64 to, .int .i64 t, .slice A1 out.length cp1]) (by simp [results, Try.results24, go_sem, r0, r1, r2]) rfl ?_
      have hout : out = l.rs.drop (to - l.base).toNat := by
        have g1 := hn.out
        rw [he.out] at g1
        have g2 := hfin.out
        rw [show to - l.base - ((0 : Nat) : Int) = to - l.base from by omega] at g2
        rw [← g2, g1]; rfl
      rw [← hout]
      have hR : Recs wr B A1 out.length out := Reads.of_own hown1
      exact ⟨A1, out.length, cp1, rfl, set3_reads hY2 _ _ _ (by omega) (by decide) hR, hc11, hc12, set3_below _ _ _ qr (by simp)⟩
set_option maxHeartbeats 1600000 in
theorem refAdopt_any (l : Lg) (at' term : Int) (A : Option Addr) (n cap : Nat) (w : World) {B : Nat} (hB : B ≤ w.heap.size) (hm : n ≤ 4398046511103) (hcap : n ≤ cap) (hmax : cap ≤ maxLen) (h : Recs w B A n l.rs) (hr : rightJ l = true) (hr2 : rightJ ⟨at', term, []⟩ = true) :
    Calls Try.prog 25 #[logV l A n cap, .int .i64 at', .int .i64 term] w (RetLog B w (adoptJ l at' term)) := by
  have hbd := right_bounds hr
  have hbd2 := right_bounds hr2
  dsimp only at hbd2
  have hX := hid_mk ((Blk.new w 24 #[.int .i64 l.base, .int .i64 l.bt, .slice A n cap]).alloc (.cells #[.int .i64 0, .int .i64 0, .slice none 0 0] 24))
  have hY := hid_mk (Blk.new (w.alloc (.cells #[.int .i64 l.base, .int .i64 l.bt, .slice A n cap] 24)) 24 #[.int .i64 0, .int .i64 0, .slice none 0 0])
  have hY2 := hY.out
  rw [World.size_alloc] at hY2
  replace hY2 := hid_mk hY2
  by_cases g : at' ≤ l.base
  · have hz : Hid (adoptJ l at' term = l) := by unfold Hid adoptJ; rw [hr, hr2]; simp [g]
    replace hr := hid_mk hr
    replace hr2 := hid_mk hr2
    rw [hz.out, logV_eq]
    go_enter Try.func25, Try.ntmps25
    go_wp2
    have hR := h.to (w' := (w.alloc (.cells #[.int .i64 l.base, .int .i64 l.bt, .slice A n cap] 24)).alloc (.cells #[.int .i64 l.base, .int .i64 l.bt, .slice A n cap] 24)) (by go_grown)
    refine bodyPost_ret (v := .agg #[.int .i64 l.base, .int .i64 l.bt, .slice A n cap]) (by simp [results, Try.results25, go_sem]) rfl ?_
    exact ⟨A, n, cap, rfl, hR, hcap, hmax, by go_grown⟩
  cases hta : termJ l at' with
  | none =>
    have hz : Hid (adoptJ l at' term = ⟨at', term, []⟩) := by unfold Hid adoptJ; rw [hr, hr2, hta]; simp [g]
    replace hta := hid_mk hta
    have ht' : ((-1 : Int) == term) = false := by simp; omega
    replace hr := hid_mk hr
    replace hr2 := hid_mk hr2
    rw [hz.out, logV_eq]
    go_enter Try.func25, Try.ntmps25
    go_wp2_with fail
    try rw [← logV_eq]
    refine (refTerm_any l at' A n cap _ (by omega) (h.to (by go_grown)) hbd.1 hbd.2.1).mono ?_
    rw [hta.out, Option.getD_none]
    rintro e w1 ⟨rfl, hb⟩
    have q1 := (after (w := w) hb (by go_grown)).1
    replace hX := hid_mk (hX.out.keep (after hb (by go_grown)).1)
    replace hY := hid_mk (hY.out.keep (after hb (by go_grown)).1)
    obtain ⟨hgx, x0, x1, x2⟩ := blk3 hX.out
    obtain ⟨hg, y0, y1, y2, z0, z1, z2⟩ := blk3f hY.out
    rw [World.size_alloc] at hg y0 y1 y2 z0 z1 z2
    have hs1 := hb.size; try simp only [World.size_alloc] at hs1; clear hb
    go_wp2
    refine bodyPost_ret (v := .agg #[.int .i64 at', .int .i64 term, .slice none 0 0]) (by simp [results, Try.results25, go_sem, y0, y1, y2]) rfl ?_
    exact ⟨none, 0, 0, rfl, Reads.none_, Nat.le_refl _, by unfold maxLen; omega, set3_below _ _ _ q1 (by simp)⟩
  | some t =>
    by_cases ht : t = term
    case neg =>
      have ht' : (t == term) = false := by simpa using ht
      have hz : Hid (adoptJ l at' term = ⟨at', term, []⟩) := by unfold Hid adoptJ; rw [hr, hr2, hta]; simp [g, ht]
      replace hta := hid_mk hta
      replace ht := hid_mk ht
      replace hr := hid_mk hr
      replace hr2 := hid_mk hr2
      rw [hz.out, logV_eq]
      go_enter Try.func25, Try.ntmps25
      go_wp2_with fail
      try rw [← logV_eq]
      refine (refTerm_any l at' A n cap _ (by omega) (h.to (by go_grown)) hbd.1 hbd.2.1).mono ?_
      rw [hta.out, Option.getD_some]
      rintro e w1 ⟨rfl, hb⟩
      have q1 := (after (w := w) hb (by go_grown)).1
      replace hX := hid_mk (hX.out.keep (after hb (by go_grown)).1)
      replace hY := hid_mk (hY.out.keep (after hb (by go_grown)).1)
      obtain ⟨hgx, x0, x1, x2⟩ := blk3 hX.out
      obtain ⟨hg, y0, y1, y2, z0, z1, z2⟩ := blk3f hY.out
      rw [World.size_alloc] at hg y0 y1 y2 z0 z1 z2
      have hs1 := hb.size; try simp only [World.size_alloc] at hs1; clear hb
      go_wp2
      refine bodyPost_ret (v := .agg #[.int .i64 at', .int .i64 term, .slice none 0 0]) (by simp [results, Try.results25, go_sem, y0, y1, y2]) rfl ?_
      exact ⟨none, 0, 0, rfl, Reads.none_, Nat.le_refl _, by unfold maxLen; omega, set3_below _ _ _ q1 (by simp)⟩
    subst ht
    have hz : Hid (adoptJ l at' t = ⟨at', t, l.rs.drop (at' - l.base).toNat⟩) := by unfold Hid adoptJ compactJ; rw [hr, hr2, hta]; simp [g]
    have hta2 := hid_mk hta
    replace hta := hid_mk hta
    replace hr := hid_mk hr
    replace hr2 := hid_mk hr2
    rw [hz.out, logV_eq]
    go_enter Try.func25, Try.ntmps25
    go_wp2_with fail
    try rw [← logV_eq]
    refine (refTerm_any l at' A n cap _ (by omega) (h.to (by go_grown)) hbd.1 hbd.2.1).mono ?_
    rw [hta.out, Option.getD_some]
    rintro e w1 ⟨rfl, hb⟩
    have q1 := (after (w := w) hb (by go_grown)).1
    replace hX := hid_mk (hX.out.keep (after hb (by go_grown)).1)
    replace hY := hid_mk (hY.out.keep (after hb (by go_grown)).1)
    obtain ⟨hgx, x0, x1, x2⟩ := blk3 hX.out
    obtain ⟨hg, y0, y1, y2, z0, z1, z2⟩ := blk3f hY.out
    rw [World.size_alloc] at hg y0 y1 y2 z0 z1 z2
    have hs1 := hb.size; try simp only [World.size_alloc] at hs1; clear hb
    go_wp2_with fail
    try rw [← logV_eq]
    refine (refFrom_any l at' t A n cap _ (B := B) (by omega) hm (h.to (by go_grown)) hbd.1 hbd.2.1 hta2.out).mono ?_
    rintro e w2 ⟨A3, n3, c3, rfl, hR3, h31, h32, hb⟩
    have q2 := (after (w := w) hb (by go_grown)).1
    replace hY := hid_mk (hY.out.keep (after hb (by go_grown)).1)
    clear hgx x0 x1 x2 hg y0 y1 y2 z0 z1 z2
    obtain ⟨hg, y0, y1, y2, z0, z1, z2⟩ := blk3f hY.out
    rw [World.size_alloc] at hg y0 y1 y2 z0 z1 z2
    have hs2 := hb.size; try simp only [World.size_alloc] at hs2; clear hb
    unfold logV
    dsimp only
    go_wp2
    have hY3 := hY.out
    rw [World.size_alloc] at hY3
    refine bodyPost_ret (v := .agg #[.int .i64 at', .int .i64 t, .slice A3 n3 c3]) (by simp [results, Try.results25, go_sem, y0, y1, y2]) rfl ?_
    exact ⟨A3, n3, c3, rfl, set3_reads hY3 _ _ _ (by omega) (by decide) hR3, h31, h32, set3_below _ _ _ q2 (by simp)⟩
end Go.Proofs.Ythaddhdlmlnclaa
