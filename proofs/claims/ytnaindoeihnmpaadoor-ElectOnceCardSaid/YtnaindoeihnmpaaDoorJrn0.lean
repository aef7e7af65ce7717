/-
  WHAT IS PROVED HERE: logs as data (records of two ints and a text behind a place), what journal.Right and the reference's Right hand back. Conditions: the records' slice is of at most 2^47 elements.
-/
import Derived.Test.YtnaindoeihnmpaaDoorBase
namespace Go.Proofs.YtnaindoeihnmpaaDoor
open Go.RowKit

structure Rec where
  t : Int
  k : Int
  d : ByteArray
structure Lg where
  base : Int
  bt : Int
  rs : List Rec

def recCells (r : Rec) : List Value := [.int .i64 r.t, .int .i64 r.k, .string r.d]
def recV (r : Rec) : Value := .agg #[.int .i64 r.t, .int .i64 r.k, .string r.d]
def cellsOf (rs : List Rec) : List Value := rs.flatMap recCells
def Recs (w : World) (B : Nat) (A : Option Addr) (n : Nat) (rs : List Rec) : Prop := Reads w B 55 3 A n (cellsOf rs)
def logV (l : Lg) (A : Option Addr) (n cap : Nat) : Value := .agg #[.int .i64 l.base, .int .i64 l.bt, .slice A n cap]

theorem cellsOf_len : ∀ rs : List Rec, (cellsOf rs).length = rs.length * 3
  | [] => rfl
  | r :: rs => by
    have := cellsOf_len rs
    unfold cellsOf at *
    simp only [List.flatMap_cons, List.length_append, List.length_cons, this, recCells, List.length_nil]
    omega
theorem cellsOf_at : ∀ (rs : List Rec) (k : Nat) (r : Rec), rs[k]? = some r → (cellsOf rs)[k * 3]? = some (.int .i64 r.t) ∧ (cellsOf rs)[k * 3 + 1]? = some (.int .i64 r.k) ∧ (cellsOf rs)[k * 3 + 2]? = some (.string r.d)
  | r :: rs, 0, r', h => by
    simp only [List.getElem?_cons_zero, Option.some.injEq] at h
    subst h
    simp [cellsOf, recCells]
  | r :: rs, k + 1, r', h => by
    have ih := cellsOf_at rs k r' (by simpa using h)
    have e : ∀ j, (cellsOf (r :: rs))[j + 3]? = (cellsOf rs)[j]? := by
      intro j
      simp [cellsOf, recCells]
    rw [show (k + 1) * 3 = k * 3 + 3 from by omega, show k * 3 + 3 + 1 = k * 3 + 1 + 3 from by omega, show k * 3 + 3 + 2 = k * 3 + 2 + 3 from by omega, e, e, e]
    exact ih
section
variable {w w' : World} {B B' n : Nat} {A : Option Addr} {rs : List Rec}
theorem Recs.len (h : Recs w B A n rs) : rs.length = n := by
  have := h.1
  rw [cellsOf_len] at this
  omega
theorem Recs.at_ {k : Nat} (h : Recs w B A n rs) (hk : k < n) :
    ∃ b o r, A = some ⟨b, o, none⟩ ∧ b < w.heap.size ∧ Hid (rs.drop k = r :: rs.drop (k + 1)) ∧ w.cell? ⟨b, o + k * 3, none⟩ = some (.int .i64 r.t) ∧ w.cell? ⟨b, o + k * 3 + 1, none⟩ = some (.int .i64 r.k) ∧ w.cell? ⟨b, o + k * 3 + 2, none⟩ = some (.string r.d) := by
  obtain ⟨b, o, e, hb, _, hc⟩ := h.2 (by omega)
  have hl : k < rs.length := by have := h.len; omega
  obtain ⟨c0, c1, c2⟩ := cellsOf_at rs k rs[k] (List.getElem?_eq_getElem hl)
  exact ⟨b, o, rs[k], e, hb, List.drop_eq_getElem_cons hl, hc _ _ c0, hc _ _ c1, hc _ _ c2⟩
theorem Recs.below (h : Recs w B A n rs) (hb : Below w.heap.size w w') : Recs w' B A n rs := Reads.to h hb
theorem Recs.to (h : Recs w B A n rs) (hb : Below w.heap.size w w') : Recs w' B A n rs := Reads.to h hb
theorem Recs.more (h : Recs w B A n rs) (hB : B ≤ B') : Recs w B' A n rs := Reads.more h hB
theorem Recs.end_ {k : Nat} (h : Recs w B A n rs) (hlt : ¬ k < n) : rs.drop k = [] := by
  have := h.len
  exact List.drop_eq_nil_of_le (by omega)
end

/-- is the number within? -/
def inB (n lo hi : Int) : Bool := decide (lo ≤ n) && decide (n ≤ hi)
/-- may these records follow a term? -/
def okRecs (term : Int) : List Rec → Bool
  | [] => true
  | r :: rs => if inB r.t term 1073741824 && inB r.k 0 2 && decide (r.d.size ≤ 8192) then okRecs r.t rs else false
def rightJ (l : Lg) : Bool :=
  inB l.base 0 1073741824 && inB l.bt 0 1073741824 && (l.base == 0) == (l.bt == 0) && decide (l.rs.length ≤ 200) && decide (l.base + l.rs.length ≤ 1073741824) && okRecs (max l.bt 1) l.rs

theorem within_any (n lo hi : Int) (w : World) : Calls Tryd.prog 41 #[.int .i64 n, .int .i64 lo, .int .i64 hi] w fun e w' => e = .returned (.bool (inB n lo hi)) ∧ w = w' := by
  by_cases h1 : lo ≤ n
  · go_enter Tryd.func41, Tryd.ntmps41
    go_wp2
    go_ret
    exact ⟨ret_bool (by simp [inB, h1]), rfl⟩
  · have h2 : decide (lo ≤ n) = false := by simpa using h1
    go_enter Tryd.func41, Tryd.ntmps41
    go_wp2
    go_ret
    exact ⟨ret_bool (by unfold inB; rw [h2]; rfl), rfl⟩

set_option maxHeartbeats 1600000 in
theorem Right_any (l : Lg) (A : Option Addr) (n cap : Nat) (w : World) {B : Nat} (hm : n ≤ 140737488355328) (h : Recs w B A n l.rs) :
    Calls Tryd.prog 27 #[logV l A n cap] w fun e w' => e = .returned (.bool (rightJ l)) ∧ Below w.heap.size w w' := by
  obtain ⟨base, bt, rs⟩ := l
  have hlen := hid_mk h.len
  have hB0 : Below w.heap.size w (w.alloc (.cells #[.int .i64 base, .int .i64 bt, .slice A n cap] 24)) := (Below.refl _ w).alloc (Nat.le_refl _) _
  unfold logV
  dsimp only at *
  go_enter Tryd.func27, Tryd.ntmps27
  go_wp2_with fail
  refine (within_any _ _ _ _).mono ?_
  rintro e w' ⟨rfl, rfl⟩
  cases h1 : inB base 0 1073741824
  · replace h1 := hid_mk h1
    go_wp2
    go_ret
    exact ⟨ret_bool (by simp [rightJ, h1.out]), hB0⟩
  have hb1 : 0 ≤ base ∧ base ≤ 1073741824 := by simpa [inB] using h1
  replace h1 := hid_mk h1
  go_wp2_with fail
  refine (within_any _ _ _ _).mono ?_
  rintro e w' ⟨rfl, rfl⟩
  cases h2 : inB bt 0 1073741824
  · replace h2 := hid_mk h2
    go_wp2
    go_ret
    exact ⟨ret_bool (by simp [rightJ, h2.out]), hB0⟩
  have hb2 : 0 ≤ bt ∧ bt ≤ 1073741824 := by simpa [inB] using h2
  replace h2 := hid_mk h2
  by_cases h3 : (base == 0) = (bt == 0)
  case neg =>
    have h3' : ((base == 0) == (bt == 0)) = false := by simpa using h3
    replace h3' := hid_mk h3'
    cases hx : (base == 0) <;> cases hy : (bt == 0) <;> simp only [hx, hy, not_true_eq_false] at h3
    all_goals
      clear h3
      go_wp2
      go_ret
      exact ⟨ret_bool (by unfold rightJ; rw [h3'.out]; simp), hB0⟩
  obtain ⟨z, hz⟩ : ∃ z, (bt == 0) = z := ⟨_, rfl⟩
  rw [hz] at h3
  have h3' : Hid (((base == 0) == (bt == 0)) = true) := by rw [h3, hz]; simp [Hid]
  by_cases h4 : 200 < n
  · go_wp2
    go_ret
    exact ⟨ret_bool (by unfold rightJ; rw [hlen.out, show decide (n ≤ 200) = false from by simp; omega]; simp), hB0⟩
  by_cases h5 : 1073741824 - (n : Int) < base
  · go_wp2
    go_ret
    exact ⟨ret_bool (by unfold rightJ; rw [hlen.out, show decide (base + n ≤ 1073741824) = false from by simp; omega]; simp), hB0⟩
  have hr : Hid (rightJ ⟨base, bt, rs⟩ = okRecs (max bt 1) rs) := by
    unfold Hid rightJ
    rw [hlen.out, show decide (n ≤ 200) = true from by simp; omega, show decide (base + n ≤ 1073741824) = true from by simp; omega, h1.out, h2.out, h3'.out]
    rfl
  clear h1 h2 h3'
  have hmx : 1 ≤ max bt 1 ∧ max bt 1 ≤ 1073741824 := by omega
  go_wp2
  clear h3 hz
  go_loopw [3, 46] (fun t i wr => ∃ (k : Nat) (term : Int), k ≤ n ∧ i = .int .i64 k ∧ t = .int .i64 term ∧ Below w.heap.size w wr ∧ Hid (rightJ ⟨base, bt, rs⟩ = okRecs term (rs.drop k))) (fun _ i _ => n - (intOf i).toNat)
  case atStart => exact ⟨0, _, Nat.zero_le _, rfl, rfl, hB0, hr⟩
  case round =>
    obtain ⟨k, term, hk, rfl, rfl, hb, hn⟩ := hrel
    by_cases hlt : k < n
    · obtain ⟨b, o, r, rfl, hbb, hd, ct, ck, cd⟩ := (h.below hb).at_ hlt
      have hb2 : Below w.heap.size w (wr.alloc (.cells #[.int .i64 r.t, .int .i64 r.k, .string r.d] 55)) := hb.alloc hb.size _
      obtain ⟨rt, rk, rd⟩ := r
      dsimp only at *
      go_wp2_with fail
      refine (within_any _ _ _ _).mono ?_
      rintro e w' ⟨rfl, rfl⟩
      cases g1 : inB rt term 1073741824
      · replace g1 := hid_mk g1
        go_wp2
        go_ret
        exact ⟨ret_bool (by rw [hn.out, hd.out]; simp [okRecs, g1.out]), hb2⟩
      have gb1 : term ≤ rt ∧ rt ≤ 1073741824 := by simpa [inB] using g1
      replace g1 := hid_mk g1
      go_wp2_with fail
      refine (within_any _ _ _ _).mono ?_
      rintro e w' ⟨rfl, rfl⟩
      cases g2 : inB rk 0 2
      · replace g2 := hid_mk g2
        go_wp2
        go_ret
        exact ⟨ret_bool (by rw [hn.out, hd.out]; simp [okRecs, g2.out]), hb2⟩
      replace g2 := hid_mk g2
      by_cases g3 : 8192 < rd.size
      · go_wp2
        go_ret
        exact ⟨ret_bool (by rw [hn.out, hd.out]; simp [okRecs]; omega), hb2⟩
      go_wp2
      go_roundw
      case rel => exact ⟨k + 1, rt, by omega, by go_num, rfl, hb2, by rw [Hid, hn.out, hd.out]; simp [okRecs, g1.out, g2.out]; omega⟩
      case measure => simp [intOf]; omega
    · have he := hid_mk (h.end_ hlt)
      go_wp2
      go_ret
      exact ⟨ret_bool (by rw [hn.out, he.out]; rfl), hb⟩
theorem refIn_any (n lo hi : Int) (w : World) : Calls Tryd.prog 42 #[.int .i64 n, .int .i64 lo, .int .i64 hi] w fun e w' => e = .returned (.bool (inB n lo hi)) ∧ w = w' := by
  by_cases h1 : lo ≤ n
  · go_enter Tryd.func42, Tryd.ntmps42
    go_wp2
    go_ret
    exact ⟨ret_bool (by simp [inB, h1]), rfl⟩
  · have h2 : decide (lo ≤ n) = false := by simpa using h1
    go_enter Tryd.func42, Tryd.ntmps42
    go_wp2
    go_ret
    exact ⟨ret_bool (by unfold inB; rw [h2]; rfl), rfl⟩

set_option maxHeartbeats 1600000 in
theorem refRight_any (l : Lg) (A : Option Addr) (n cap : Nat) (w : World) {B : Nat} (hm : n ≤ 140737488355328) (h : Recs w B A n l.rs) :
    Calls Tryd.prog 28 #[logV l A n cap] w fun e w' => e = .returned (.bool (rightJ l)) ∧ Below w.heap.size w w' := by
  obtain ⟨base, bt, rs⟩ := l
  have hlen := hid_mk h.len
  have hB0 : Below w.heap.size w (w.alloc (.cells #[.int .i64 base, .int .i64 bt, .slice A n cap] 24)) := (Below.refl _ w).alloc (Nat.le_refl _) _
  unfold logV
  dsimp only at *
  go_enter Tryd.func28, Tryd.ntmps28
  go_wp2_with fail
  refine (refIn_any _ _ _ _).mono ?_
  rintro e w' ⟨rfl, rfl⟩
  cases h1 : inB base 0 1073741824
  · replace h1 := hid_mk h1
    go_wp2
    go_ret
    exact ⟨ret_bool (by simp [rightJ, h1.out]), hB0⟩
  have hb1 : 0 ≤ base ∧ base ≤ 1073741824 := by simpa [inB] using h1
  replace h1 := hid_mk h1
  go_wp2_with fail
  refine (refIn_any _ _ _ _).mono ?_
  rintro e w' ⟨rfl, rfl⟩
  cases h2 : inB bt 0 1073741824
  · replace h2 := hid_mk h2
    go_wp2
    go_ret
    exact ⟨ret_bool (by simp [rightJ, h2.out]), hB0⟩
  have hb2 : 0 ≤ bt ∧ bt ≤ 1073741824 := by simpa [inB] using h2
  replace h2 := hid_mk h2
  by_cases h3 : (base == 0) = (bt == 0)
  case neg =>
    have h3' : ((base == 0) == (bt == 0)) = false := by simpa using h3
    replace h3' := hid_mk h3'
    cases hx : (base == 0) <;> cases hy : (bt == 0) <;> simp only [hx, hy, not_true_eq_false] at h3
    all_goals
      clear h3
      go_wp2
      go_ret
      exact ⟨ret_bool (by unfold rightJ; rw [h3'.out]; simp), hB0⟩
  obtain ⟨z, hz⟩ : ∃ z, (bt == 0) = z := ⟨_, rfl⟩
  rw [hz] at h3
  have h3' : Hid (((base == 0) == (bt == 0)) = true) := by rw [h3, hz]; simp [Hid]
  by_cases h4 : 200 < n
  · go_wp2
    go_ret
    exact ⟨ret_bool (by unfold rightJ; rw [hlen.out, show decide (n ≤ 200) = false from by simp; omega]; simp), hB0⟩
  by_cases h5 : 1073741824 - (n : Int) < base
  · go_wp2
    go_ret
    exact ⟨ret_bool (by unfold rightJ; rw [hlen.out, show decide (base + n ≤ 1073741824) = false from by simp; omega]; simp), hB0⟩
  have hr : Hid (rightJ ⟨base, bt, rs⟩ = okRecs (max bt 1) rs) := by
    unfold Hid rightJ
    rw [hlen.out, show decide (n ≤ 200) = true from by simp; omega, show decide (base + n ≤ 1073741824) = true from by simp; omega, h1.out, h2.out, h3'.out]
    rfl
  clear h1 h2 h3'
  go_wp2
  clear h3 hz
  go_loopw [3, 45] (fun t i wr => ∃ (k : Nat) (term : Int), k ≤ n ∧ i = .int .i64 k ∧ t = .int .i64 term ∧ Below w.heap.size w wr ∧ Hid (rightJ ⟨base, bt, rs⟩ = okRecs (max term 1) (rs.drop k))) (fun _ i _ => n - (intOf i).toNat)
  case atStart => exact ⟨0, _, Nat.zero_le _, rfl, rfl, hB0, hr⟩
  case round =>
    obtain ⟨k, term, hk, rfl, rfl, hb, hn⟩ := hrel
    by_cases hlt : k < n
    · obtain ⟨b, o, r, rfl, hbb, hd, ct, ck, cd⟩ := (h.below hb).at_ hlt
      have hb2 : Below w.heap.size w (wr.alloc (.cells #[.int .i64 r.t, .int .i64 r.k, .string r.d] 55)) := hb.alloc hb.size _
      obtain ⟨rt, rk, rd⟩ := r
      dsimp only at *
      by_cases q1 : rt < 1
      · go_wp2
        go_ret
        exact ⟨ret_bool (by rw [hn.out, hd.out]; unfold okRecs inB; rw [if_neg (by simp; omega)]), hb2⟩
      by_cases q2 : rt < term
      · go_wp2
        go_ret
        exact ⟨ret_bool (by rw [hn.out, hd.out]; unfold okRecs inB; rw [if_neg (by simp; omega)]), hb2⟩
      by_cases q3 : 1073741824 < rt
      · go_wp2
        go_ret
        exact ⟨ret_bool (by rw [hn.out, hd.out]; unfold okRecs inB; rw [if_neg (by simp; omega)]), hb2⟩
      have g1 : inB rt (max term 1) 1073741824 = true := by simp [inB]; omega
      replace g1 := hid_mk g1
      go_wp2_with fail
      refine (refIn_any _ _ _ _).mono ?_
      rintro e w' ⟨rfl, rfl⟩
      cases g2 : inB rk 0 2
      · replace g2 := hid_mk g2
        go_wp2
        go_ret
        exact ⟨ret_bool (by rw [hn.out, hd.out]; simp [okRecs, g2.out]), hb2⟩
      replace g2 := hid_mk g2
      by_cases g3 : 8192 < rd.size
      · go_wp2
        go_ret
        exact ⟨ret_bool (by rw [hn.out, hd.out]; simp [okRecs]; omega), hb2⟩
      go_wp2
      go_roundw
      case rel => exact ⟨k + 1, rt, by omega, by go_num, rfl, hb2, by rw [Hid, hn.out, hd.out, show max rt 1 = rt from by omega]; simp [okRecs, g1.out, g2.out]; omega⟩
      case measure => simp [intOf]; omega
    · have he := hid_mk (h.end_ hlt)
      go_wp2
      go_ret
      exact ⟨ret_bool (by rw [hn.out, he.out]; rfl), hb⟩
end Go.Proofs.YtnaindoeihnmpaaDoor
