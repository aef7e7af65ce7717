/-
  WHAT IS PROVED HERE: what journal's Last, TermAt, Newer and the reference's Last, Term, Newer hand back. Conditions: the records' slice is of at most 2^47 elements; where the reference is called, the log's numbers are within those of a log that may be.
-/
import Derived.Test.YtnaindoeihnmpaaDoorJrn0
namespace Go.Proofs.YtnaindoeihnmpaaDoor
open Go.RowKit

def lastJ (l : Lg) : Int := l.base + l.rs.length
def termJ (l : Lg) (at' : Int) : Option Int :=
  if at' = l.base then some l.bt else if l.base < at' ∧ at' ≤ lastJ l then (l.rs[(at' - l.base - 1).toNat]?).map Rec.t else none

theorem right_bounds {l : Lg} (h : rightJ l = true) : 0 ≤ l.base ∧ l.base ≤ 1073741824 ∧ 0 ≤ l.bt ∧ l.bt ≤ 1073741824 ∧ l.rs.length ≤ 200 ∧ l.base + l.rs.length ≤ 1073741824 := by
  unfold rightJ inB at h
  simp only [Bool.and_eq_true, decide_eq_true_eq] at h
  omega

theorem logV_eq (l : Lg) (A : Option Addr) (n cap : Nat) : logV l A n cap = .agg #[.int .i64 l.base, .int .i64 l.bt, .slice A n cap] := rfl

theorem refLast_any (l : Lg) (A : Option Addr) (n cap : Nat) (w : World) (hm : n ≤ 140737488355328) (h : l.rs.length = n) (h0 : 0 ≤ l.base) (h1 : l.base ≤ 1073741824) :
    Calls Tryd.prog 26 #[logV l A n cap] w fun e w' => e = .returned (.int .i64 (lastJ l)) ∧ Below w.heap.size w w' := by
  obtain ⟨base, bt, rs⟩ := l
  unfold lastJ logV
  dsimp only at *
  rw [h]
  clear h
  go_enter Tryd.func26, Tryd.ntmps26
  go_wp2
  go_ret
  exact ⟨rfl, (Below.refl _ w).alloc (Nat.le_refl _) _⟩
theorem termJ_eq (l : Lg) : termJ l l.base = some l.bt := by simp [termJ]
theorem termJ_lt (l : Lg) {at' : Int} (h : at' < l.base) : termJ l at' = none := by
  unfold termJ; rw [if_neg (by omega), if_neg (by omega)]
theorem termJ_gt (l : Lg) {at' : Int} (h : l.base + l.rs.length < at') : termJ l at' = none := by
  unfold termJ lastJ; rw [if_neg (by omega), if_neg (by omega)]
theorem termJ_mid (l : Lg) {m : Nat} {r : Rec} (h : l.rs.drop m = r :: l.rs.drop (m + 1)) : termJ l (l.base + 1 + m) = some r.t := by
  have hk : m < l.rs.length := by
    rcases Nat.lt_or_ge m l.rs.length with h' | h'
    · exact h'
    · rw [List.drop_eq_nil_of_le h'] at h; cases h
  have h2 : l.rs[m]'hk = r := by rw [List.drop_eq_getElem_cons hk] at h; injection h
  unfold termJ lastJ
  rw [if_neg (by omega), if_pos (by omega), show (l.base + 1 + (m : Int) - l.base - 1).toNat = m from by omega, List.getElem?_eq_getElem hk, h2]
  rfl
theorem vterm_any (l : Lg) (at' : Int) (A : Option Addr) (n cap : Nat) (w : World) {B : Nat} (hm : n ≤ 140737488355328) (h : Recs w B A n l.rs) (h0 : 0 ≤ l.base) (h1 : l.base ≤ 1073741824) :
    Calls Tryd.prog 38 #[logV l A n cap, .int .i64 at'] w fun e w' => e = .returned (.tuple #[.int .i64 ((termJ l at').getD 0), .bool (termJ l at').isSome]) ∧ Below w.heap.size w w' := by
  have hlen := hid_mk h.len
  obtain ⟨base, bt, rs⟩ := l
  have hb0 : Below w.heap.size w (w.alloc (.cells #[.int .i64 base, .int .i64 bt, .slice A n cap] 77)) := (Below.refl _ w).alloc (Nat.le_refl _) _
  unfold logV
  dsimp only at *
  by_cases e : at' = base
  · subst e
    have hz := hid_mk (termJ_eq ⟨at', bt, rs⟩)
    go_enter Tryd.func38, Tryd.ntmps38
    go_wp2
    go_ret2
    exact ⟨by rw [hz.out]; rfl, hb0⟩
  have e1 : (at' == base) = false := by simpa using e
  have e := hid_mk e
  by_cases e2 : at' < base
  · have e3 : decide (base < at') = false := by simp; omega
    have hz := hid_mk (termJ_lt ⟨base, bt, rs⟩ e2)
    go_enter Tryd.func38, Tryd.ntmps38
    go_wp2
    go_ret2
    exact ⟨by rw [hz.out]; rfl, hb0⟩
  by_cases e3 : base + n < at'
  · have hz := hid_mk (termJ_gt (at' := at') ⟨base, bt, rs⟩ (by have := hlen.out; dsimp only; omega))
    go_enter Tryd.func38, Tryd.ntmps38
    go_wp2
    go_ret2
    exact ⟨by rw [hz.out]; rfl, hb0.alloc (by simp) _⟩
  obtain ⟨m, hm'⟩ : ∃ m : Nat, at' = base + 1 + m := ⟨(at' - base - 1).toNat, by have := e.out; omega⟩
  have hmn : m < n := by omega
  obtain ⟨b, o, r, rfl, hbb, hd, ct, ck, cd⟩ := h.at_ hmn
  have ct : w.cell? ⟨b, o + ((at' - base).toNat - 1) * 3, none⟩ = some (.int .i64 r.t) := by rw [show (at' - base).toNat - 1 = m by omega]; exact ct
  have hre := hid_mk (termJ_mid ⟨base, bt, rs⟩ hd.out)
  have g1 : base < at' := by omega
  replace hm' := hid_mk hm'
  go_enter Tryd.func38, Tryd.ntmps38
  go_wp2
  go_ret2
  exact ⟨by rw [hm'.out]; have := hre.out; rw [this]; rfl, hb0.alloc (by simp) _⟩
theorem vlast_any (l : Lg) (A : Option Addr) (n cap : Nat) (w : World) (hm : n ≤ 140737488355328) (h : l.rs.length = n) (h0 : 0 ≤ l.base) (h1 : l.base ≤ 1073741824) :
    Calls Tryd.prog 39 #[logV l A n cap] w fun e w' => e = .returned (.int .i64 (lastJ l)) ∧ Below w.heap.size w w' := by
  obtain ⟨base, bt, rs⟩ := l
  unfold lastJ logV
  dsimp only at *
  rw [h]
  clear h
  go_enter Tryd.func39, Tryd.ntmps39
  go_wp2
  go_ret
  exact ⟨rfl, (Below.refl _ w).alloc (Nat.le_refl _) _⟩
set_option maxHeartbeats 400000 in
theorem Last_any (l : Lg) (A : Option Addr) (n cap : Nat) (w : World) {B : Nat} (hm : n ≤ 140737488355328) (h : Recs w B A n l.rs) :
    Calls Tryd.prog 20 #[logV l A n cap] w fun e w' => e = .returned (.tuple #[.int .i64 (if rightJ l then lastJ l else 0), .int .i64 (if rightJ l then (termJ l (lastJ l)).getD 0 else 0)]) ∧ Below w.heap.size w w' := by
  have hlen := hid_mk h.len
  cases hr : rightJ l
  · replace hr := hid_mk hr
    rw [logV_eq]
    go_enter Tryd.func20, Tryd.ntmps20
    go_wp2_with fail
    rw [← logV_eq]
    refine (Right_any l _ _ _ _ hm (h.to (by go_grown))).mono ?_
    rw [hr.out]
    rintro e w1 ⟨rfl, hb⟩
    obtain ⟨q1, z1, c1, f1⟩ := after (w := w) hb (by go_grown)
    go_wp2
    go_ret2
    exact ⟨by simp, q1⟩
  · have hbd := right_bounds hr
    replace hr := hid_mk hr
    rw [logV_eq]
    go_enter Tryd.func20, Tryd.ntmps20
    go_wp2_with fail
    rw [← logV_eq]
    refine (Right_any l _ _ _ _ hm (h.to (by go_grown))).mono ?_
    rw [hr.out]
    rintro e w1 ⟨rfl, hb⟩
    obtain ⟨q1, z1, c1, f1⟩ := after (w := w) hb (by go_grown)
    simp only [World.size_alloc] at z1
    go_wp2_with fail
    go_region_held3 (fun w' => w'.cell? ⟨w1.heap.size, 0, none⟩ = some (.int .i64 l.base) ∧ w'.cell? ⟨w1.heap.size, 1, none⟩ = some (.int .i64 l.bt) ∧ w'.cell? ⟨w1.heap.size, 2, none⟩ = some (.slice A n cap)) (go_keep) (first | (go_at_call 39; refine (vlast_any l A n cap _ hm hlen.out hbd.1 hbd.2.1).mono ?_; rintro e w2 ⟨rfl, hb2⟩; obtain ⟨q2, z2, c2, f2⟩ := after (w := w) hb2 (by go_grown); have z2' : w1.heap.size < w2.heap.size := by (simp at z2; omega)) | (go_at_call 38; refine (vterm_any l _ A n cap _ hm (h.to (by go_grown)) hbd.1 hbd.2.1).mono ?_; rintro e w3 ⟨rfl, hb3⟩; obtain ⟨q3, z3, c3, f3⟩ := after (w := w) hb3 (by go_grown)))
    go_wp2
    go_ret2
    exact ⟨by simp [lastJ, hlen.out], by go_grown⟩
end Go.Proofs.YtnaindoeihnmpaaDoor
