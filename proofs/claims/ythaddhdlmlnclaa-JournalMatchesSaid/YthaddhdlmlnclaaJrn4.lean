/-
  WHAT IS PROVED HERE: what journal.Compact, Adopt, own and the reference's From, Adopt, Like hand back. Conditions: slices of at most 2^42 records.
-/
import Derived.Test.YthaddhdlmlnclaaJrn3
namespace Go.Proofs.Ythaddhdlmlnclaa
open Go.RowKit

/-- a log and an error are handed back, and nothing that was there has turned -/
def RetLogE (B : Nat) (w : World) (l : Lg) (er : Int) (e : Ending) (w' : World) : Prop :=
  ∃ A n cap, e = .returned (.tuple #[logV l A n cap, .int .i64 er]) ∧ Recs w' B A n l.rs ∧ n ≤ cap ∧ cap ≤ maxLen ∧ Below w.heap.size w w'
def RetLog (B : Nat) (w : World) (l : Lg) (e : Ending) (w' : World) : Prop :=
  ∃ A n cap, e = .returned (logV l A n cap) ∧ Recs w' B A n l.rs ∧ n ≤ cap ∧ cap ≤ maxLen ∧ Below w.heap.size w w'
def zeroL : Lg := ⟨0, 0, []⟩
def compactJ (l : Lg) (to : Int) : Lg × Int :=
  if rightJ l then match termJ l to with
    | none => (zeroL, 150)
    | some t => (⟨to, t, l.rs.drop (to - l.base).toNat⟩, 0)
  else (zeroL, 1)

theorem termJ_range {l : Lg} {at' t : Int} (h : termJ l at' = some t) : l.base ≤ at' ∧ at' ≤ l.base + l.rs.length := by
  unfold termJ lastJ at h
  split at h
  · omega
  · split at h
    · omega
    · cases h

set_option maxHeartbeats 800000 in
theorem Compact_any (l : Lg) (to : Int) (A : Option Addr) (n cap : Nat) (w : World) {B : Nat} (hB : B ≤ w.heap.size) (hm : n ≤ 140737488355328) (hcap : n ≤ cap) (h : Recs w B A n l.rs) :
    Calls Try.prog 21 #[logV l A n cap, .int .i64 to] w (RetLogE B w (compactJ l to).1 (compactJ l to).2) := by
  have hlen := hid_mk h.len
  have hX := hid_mk ((Blk.new w 24 #[.int .i64 l.base, .int .i64 l.bt, .slice A n cap]).alloc (.cells #[.int .i64 0, .int .i64 0, .slice none 0 0] 24))
  have hY := hid_mk (Blk.new (w.alloc (.cells #[.int .i64 l.base, .int .i64 l.bt, .slice A n cap] 24)) 24 #[.int .i64 0, .int .i64 0, .slice none 0 0])
  cases hr : rightJ l
  · have hz : Hid (compactJ l to = (zeroL, 1)) := by unfold Hid compactJ; rw [hr]; rfl
    replace hr := hid_mk hr
    rw [hz.out, logV_eq]
    go_enter Try.func21, Try.ntmps21
    go_wp2_with fail
    rw [← logV_eq]
    refine (Right_any l _ _ _ _ hm (h.to (by go_grown))).mono ?_
    rw [hr.out]
    rintro e w1 ⟨rfl, hb⟩
    have q1 := (after (w := w) hb (by go_grown)).1
    replace hY := hid_mk (hY.out.keep hb)
    obtain ⟨hg, y0, y1, y2, z0, z1, z2⟩ := blk3f hY.out
    rw [World.size_alloc] at hg y0 y1 y2 z0 z1 z2
    have hb_ := hb.size; clear hb
    go_wp2
    refine bodyPost_ret (v := .tuple #[.agg #[.int .i64 0, .int .i64 0, .slice none 0 0], .int .i64 1]) (by simp [results, Try.results21, go_sem, y0, y1, y2]) rfl ?_
    exact ⟨none, 0, 0, rfl, Reads.none_, Nat.le_refl _, by unfold maxLen; omega, set3_below _ _ _ q1 (by simp)⟩
  · have hbd := right_bounds hr
    cases hta : termJ l to with
    | none =>
      have hz : Hid (compactJ l to = (zeroL, 150)) := by unfold Hid compactJ; rw [hr, if_pos rfl, hta]
      replace hr := hid_mk hr
      replace hta := hid_mk hta
      rw [hz.out, logV_eq]
      go_enter Try.func21, Try.ntmps21
      go_wp2_with fail
      rw [← logV_eq]
      refine (Right_any l _ _ _ _ hm (h.to (by go_grown))).mono ?_
      rw [hr.out]
      rintro e w1 ⟨rfl, hb⟩
      have q1 := (after (w := w) hb (by go_grown)).1
      replace hX := hid_mk (hX.out.keep hb)
      replace hY := hid_mk (hY.out.keep hb)
      obtain ⟨hgx, x0, x1, x2⟩ := blk3 hX.out
      have hb_ := hb.size; clear hb
      go_wp2_with fail
      rw [← logV_eq]
      refine (vterm_any l _ _ _ _ _ hm (h.to (by go_grown)) hbd.1 hbd.2.1).mono ?_
      rw [hta.out]
      rintro e w2 ⟨rfl, hb⟩
      have q2 := (after (w := w) hb (by go_grown)).1
      clear hgx x0 x1 x2
      replace hY := hid_mk (hY.out.keep (after hb (by go_grown)).1)
      obtain ⟨hg, y0, y1, y2, z0, z1, z2⟩ := blk3f hY.out
      rw [World.size_alloc] at hg y0 y1 y2 z0 z1 z2
      clear hb
      go_wp2
      refine bodyPost_ret (v := .tuple #[.agg #[.int .i64 0, .int .i64 0, .slice none 0 0], .int .i64 150]) (by simp [results, Try.results21, go_sem, y0, y1, y2]) rfl ?_
      exact ⟨none, 0, 0, rfl, Reads.none_, Nat.le_refl _, by unfold maxLen; omega, set3_below _ _ _ q2 (by simp)⟩
    | some t =>
      have hz : Hid (compactJ l to = (⟨to, t, l.rs.drop (to - l.base).toNat⟩, 0)) := by unfold Hid compactJ; rw [hr, if_pos rfl, hta]
      have hrg := termJ_range hta
      have hln := hlen.out
      obtain ⟨i0, hi0, hz0, hz1, hz2⟩ := info_parts recInfo
      have e1 := fun w => run_slice_from (P := Try.prog) w 22 47 Try.underlying22 i0 hi0 3 hz1 A n cap (to - l.base) (by omega) (by omega)
      have hR := h.cutA (k := (to - l.base).toNat) (cap := cap) (by omega) hcap
      obtain ⟨C, hC⟩ : ∃ C, cutA A cap (to - l.base).toNat 3 = C := ⟨_, rfl⟩
      obtain ⟨q, hq⟩ : ∃ q, n - (to - l.base).toNat = q := ⟨_, rfl⟩
      obtain ⟨c2, hc2⟩ : ∃ c2, cap - (to - l.base).toNat = c2 := ⟨_, rfl⟩
      rw [hC, hq] at hR
      simp only [hC, hq, hc2] at e1
      have hqc : q ≤ c2 := by omega
      have hqn : q ≤ 200 := by omega
      clear hC hq hc2 hi0 hz0 hz1 hz2 hln
      replace hr := hid_mk hr
      replace hta := hid_mk hta
      rw [hz.out, logV_eq]
      go_enter Try.func21, Try.ntmps21
      go_wp2_with fail
      rw [← logV_eq]
      refine (Right_any l _ _ _ _ hm (h.to (by go_grown))).mono ?_
      rw [hr.out]
      rintro e w1 ⟨rfl, hb⟩
      have q1 := (after (w := w) hb (by go_grown)).1
      replace hX := hid_mk (hX.out.keep hb)
      replace hY := hid_mk (hY.out.keep hb)
      obtain ⟨hgx, x0, x1, x2⟩ := blk3 hX.out
      have hb_ := hb.size; clear hb
      go_wp2_with fail
      rw [← logV_eq]
      refine (vterm_any l _ _ _ _ _ hm (h.to (by go_grown)) hbd.1 hbd.2.1).mono ?_
      rw [hta.out]
      rintro e w2 ⟨rfl, hb⟩
      have q2 := (after (w := w) hb (by go_grown)).1
      clear hgx x0 x1 x2
      replace hX := hid_mk (hX.out.keep (after hb (by go_grown)).1)
      replace hY := hid_mk (hY.out.keep (after hb (by go_grown)).1)
      obtain ⟨hgx, x0, x1, x2⟩ := blk3 hX.out
      have hb_ := hb.size; clear hb
      go_wp2_with fail
      refine (Clone_any C q c2 _ _ (by omega) (by omega) (hR.to (by go_grown))).mono ?_
      rintro e w3 ⟨A3, n3, c3, rfl, hR3, h31, h32, hb⟩
      have q3 := (after (w := w) hb (by go_grown)).1
      clear hgx x0 x1 x2
      replace hY := hid_mk (hY.out.keep (after hb (by go_grown)).1)
      obtain ⟨hg, y0, y1, y2, z0, z1, z2⟩ := blk3f hY.out
      rw [World.size_alloc] at hg y0 y1 y2 z0 z1 z2
      clear hb
      go_wp2
      refine bodyPost_ret (v := .tuple #[.agg #[.int .i64 to, .int .i64 t, .slice A3 n3 c3], .int .i64 0]) (by simp [results, Try.results21, go_sem, y0, y1, y2]) rfl ?_
      have hY2 := hY.out
      rw [World.size_alloc] at hY2
      exact ⟨A3, n3, c3, rfl, set3_reads hY2 _ _ _ (by omega) (by decide) hR3, h31, h32, set3_below _ _ _ q3 (by simp)⟩
set_option maxHeartbeats 400000 in
theorem own_any (l : Lg) (A : Option Addr) (n cap : Nat) (w : World) {B : Nat} (hB : B ≤ w.heap.size) (hm : n ≤ 4398046511104) (hcap : n ≤ cap) (h : Recs w B A n l.rs) :
    Calls Try.prog 33 #[logV l A n cap] w (RetLog B w l) := by
  have hX := hid_mk ((Blk.new w 24 #[.int .i64 l.base, .int .i64 l.bt, .slice A n cap]).alloc (.cells #[.int .i64 0, .int .i64 0, .slice none 0 0] 24))
  have hY := hid_mk (Blk.new (w.alloc (.cells #[.int .i64 l.base, .int .i64 l.bt, .slice A n cap] 24)) 24 #[.int .i64 0, .int .i64 0, .slice none 0 0])
  rw [logV_eq]
  go_enter Try.func33, Try.ntmps33
  go_wp2_with fail
  refine (Clone_any A n cap _ _ hm hcap (h.to (by go_grown))).mono ?_
  rintro e w3 ⟨A3, n3, c3, rfl, hR3, h31, h32, hb⟩
  have q3 := (after (w := w) hb (by go_grown)).1
  replace hX := hid_mk (hX.out.keep hb)
  replace hY := hid_mk (hY.out.keep hb)
  obtain ⟨hgx, x0, x1, x2, f0, f1, f2⟩ := blk3f hX.out
  obtain ⟨hg, y0, y1, y2, z0, z1, z2⟩ := blk3f hY.out
  rw [World.size_alloc] at hg y0 y1 y2 z0 z1 z2
  clear hb
  go_wp2
  refine bodyPost_ret (v := .agg #[.int .i64 l.base, .int .i64 l.bt, .slice A3 n3 c3]) (by simp [results, Try.results33, go_sem, y0, y1, y2]) rfl ?_
  have hY2 := hY.out
  rw [World.size_alloc] at hY2
  have hY3 : Blk (w3.setCell ⟨w.heap.size, 2, none⟩ (.slice A3 n3 c3)) (w.heap.size + 1) 24 _ := hY2.far (p := ⟨w.heap.size, 2, none⟩) (by simp) _
  have hR4 : Recs (w3.setCell ⟨w.heap.size, 2, none⟩ (.slice A3 n3 c3)) B A3 n3 l.rs := Reads.far hR3 hX.out hB (by decide) 2 _
  exact ⟨A3, n3, c3, rfl, set3_reads hY3 _ _ _ (by omega) (by decide) hR4, h31, h32, set3_below _ _ _ (q3.setCell (p := ⟨w.heap.size, 2, none⟩) (Nat.le_refl _) _) (by simp)⟩
def likeJ (a b : Lg) : Bool := a.base == b.base && a.bt == b.bt && (decide (a.rs.length = b.rs.length) && likeR a.rs b.rs)
theorem likeJ_self (a : Lg) : likeJ a a = true := by
  unfold likeJ
  simp
  exact (likeR_eq rfl).2 rfl
theorem likeJ_eq {a b : Lg} : likeJ a b = true ↔ a = b := by
  obtain ⟨x, y, rs⟩ := a
  obtain ⟨x', y', rs'⟩ := b
  unfold likeJ
  simp only [Bool.and_eq_true, beq_iff_eq, decide_eq_true_eq, Lg.mk.injEq]
  constructor
  · rintro ⟨⟨h1, h2⟩, h3, h4⟩
    exact ⟨h1, h2, (likeR_eq h3).1 h4⟩
  · rintro ⟨h1, h2, rfl⟩
    exact ⟨⟨h1, h2⟩, rfl, (likeR_eq rfl).2 rfl⟩
set_option maxHeartbeats 400000 in
theorem Like_any (a b : Lg) (A : Option Addr) (n cap : Nat) (A' : Option Addr) (n' cap' : Nat) (w : World) {B : Nat} (hm : n ≤ 140737488355328) (hm' : n' ≤ 140737488355328) (h : Recs w B A n a.rs) (h' : Recs w B A' n' b.rs) :
    Calls Try.prog 23 #[logV a A n cap, logV b A' n' cap'] w fun e w' => e = .returned (.bool (likeJ a b)) ∧ Below w.heap.size w w' := by
  have hl := h.len
  have hl' := h'.len
  obtain ⟨x, y, rs⟩ := a
  obtain ⟨x', y', rs'⟩ := b
  dsimp only at *
  unfold logV
  dsimp only
  by_cases e0 : x = x'
  · subst e0
    by_cases e1 : y = y'
    · subst e1
      go_enter Try.func23, Try.ntmps23
      go_wp2_with fail
      refine (LikeRecords_any A n cap rs A' n' cap' rs' _ hm hm' (h.to (by go_grown)) (h'.to (by go_grown))).mono ?_
      rintro e w3 ⟨rfl, hb⟩
      have q3 := (after (w := w) hb (by go_grown)).1
      go_wp2
      go_ret
      exact ⟨ret_bool (by unfold likeJ; simp [hl, hl']), q3⟩
    · have g1 : (y == y') = false := by simpa using e1
      replace e1 := hid_mk e1
      clear hl hl'
      go_enter Try.func23, Try.ntmps23
      go_wp2
      go_ret
      exact ⟨ret_bool (by unfold likeJ; simp [e1.out]), by go_grown⟩
  · have g1 : (x == x') = false := by simpa using e0
    replace e0 := hid_mk e0
    clear hl hl'
    go_enter Try.func23, Try.ntmps23
    go_wp2
    go_ret
    exact ⟨ret_bool (by unfold likeJ; simp [e0.out]), by go_grown⟩
def adoptJ (l : Lg) (at' term : Int) : Lg :=
  if rightJ l && rightJ ⟨at', term, []⟩ then
    if at' ≤ l.base then l
    else match termJ l at' with
      | some t => if t = term then (compactJ l at').1 else ⟨at', term, []⟩
      | none => ⟨at', term, []⟩
  else zeroL
end Go.Proofs.Ythaddhdlmlnclaa
