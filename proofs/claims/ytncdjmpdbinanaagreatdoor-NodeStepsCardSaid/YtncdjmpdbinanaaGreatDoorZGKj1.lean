/-
  WHAT IS PROVED HERE: what slices.Clone at records, journal.Behind and the reference's Behind and LikeRecords hand back. Conditions: slices of at most 2^42 records.
  WHAT IS PROVED HERE: what journal.TermAt hands back. Conditions: the records' slice is of at most 2^42 elements.
  WHAT IS PROVED HERE: what journal.Compact, Adopt, own and the reference's From, Adopt, Like hand back. Conditions: slices of at most 2^42 records.
  WHAT IS PROVED HERE: what journal.Adopt and the reference's From and Adopt hand back. Conditions: slices of at most 2^42 records.
  WHAT IS PROVED HERE: what slices.Clone of records and of peers hands back: a row of the call's own. Condition: at most 2^42 elements.
-/
import Derived.Test.YtncdjmpdbinanaaGreatDoorZGJrn
import Derived.Test.YtncdjmpdbinanaaGreatDoorZGMem
namespace Go.Proofs.YtncdjmpdbinanaaGreatDoor
open Go.RowKit

/-- a slice of records is handed back, and nothing that was there has turned -/
def RetRecs (B : Nat) (w : World) (rs : List Rec) (e : Ending) (w' : World) : Prop :=
  ∃ A n cap, e = .returned (.slice A n cap) ∧ Recs w' B A n rs ∧ n ≤ cap ∧ cap ≤ maxLen ∧ Below w.heap.size w w'

set_option maxRecDepth 100000 in
theorem rec_one (rs : List Rec) : ∀ u ∈ cellsOf rs, u.oneCell' = true := by
  intro u hu
  unfold cellsOf recCells at hu
  simp only [List.mem_flatMap, List.mem_cons, List.mem_nil_iff, or_false] at hu
  obtain ⟨r, _, rfl | rfl | rfl⟩ := hu <;> rfl

set_option maxRecDepth 100000 in
theorem recInfo : (Tryz.prog.info? 51).map (fun i => (i.zero, i.size, i.bytes)) = some (some (.agg #[.int .i64 0, .int .i64 0, .string ByteArray.empty]), 3, 32) := by kernel_rfl

set_option maxRecDepth 100000 in
theorem CloneR_any (A : Option Addr) (n cap : Nat) (rs : List Rec) (w : World) {B : Nat} (hm : n ≤ 4398046511104) (hcap : n ≤ cap) (h : Recs w B A n rs) :
    Calls Tryz.prog 127 #[.slice A n cap] w (RetRecs B w rs) := by
  have hq := fun (A : Option Addr) (w : World) => Lib.run_eql_slice_nil (P := Tryz.prog) w 22 51 A n cap 0 0 Tryz.underlying22
  rcases A with _ | ad
  · have hn : n = 0 := by
      rcases Nat.eq_zero_or_pos n with h0 | h0
      · exact h0
      · obtain ⟨_, _, e, _⟩ := h.2 h0; cases e
    subst hn
    have hrs : rs = [] := List.eq_nil_of_length_eq_zero h.len
    replace hq := hq none
    go_enter Tryz.func127, Tryz.ntmps127
    go_wp2
    go_ret
    exact ⟨none, 0, 0, rfl, by rw [hrs]; exact Reads.none_, Nat.le_refl _, by unfold maxLen; omega, Below.refl _ _⟩
  · obtain ⟨i0, hi0, hz0, hz1, hz2⟩ := info_parts recInfo
    replace hq := hq (some ad)
    have hown := World.ownsRow_lit (base := w.heap.size) (e := 51) (size := 3) w #[] 0 (Nat.le_refl _) (by unfold maxLen; omega) (by simp)
    have hI : Reads (w.alloc (.cells #[] 51)) B 51 3 (some ad) n (cellsOf rs) := Reads.to h ((Below.refl _ w).alloc (Nat.le_refl _) _)
    go_enter Tryz.func127, Tryz.ntmps127
    go_wp2_with (at_builtin; refine wpList_append_any _ rfl (.tmp 5) (.tmp 6) _ rfl w.heap.size 51 i0 _ 3 32 Tryz.underlying22 hi0 hz0 hz1 hz2 rfl (by omega) _ 0 [] rfl hown B (some ad) n cap (cellsOf rs) rfl hI (rec_one rs) (by simp only [maxLen]; omega) (by omega) (by simp) ?_; intro v1 w1 hown1 hg1 hat1)
    go_ret
    simp only [Nat.zero_add, List.nil_append] at hown1
    obtain ⟨A', c', rfl, hc1, hc2⟩ := own_slice hown1
    refine ⟨A', n, c', rfl, reads_of_own hown1, hc1, hc2, ?_⟩
    have hb : Below w.heap.size w (w.alloc (.cells #[] 51)) := (Below.refl _ w).alloc (Nat.le_refl _) _
    exact hb.grown hg1 (by simp) (fun k hk => by cases hk; exact Nat.le_refl _)
def recB (a b : Rec) : Bool := a.t == b.t && a.k == b.k && a.d.toList == b.d.toList
/-- equal, record by record -/
def likeR : List Rec → List Rec → Bool
  | a :: aa, b :: bb => if recB a b then likeR aa bb else false
  | _, _ => true
set_option maxRecDepth 100000 in
theorem toList_inj {a b : ByteArray} : a.toList = b.toList ↔ a = b := by
  rw [ByteArray.toList_eq, ByteArray.toList_eq]
  obtain ⟨⟨x⟩⟩ := a
  obtain ⟨⟨y⟩⟩ := b
  simp
set_option maxRecDepth 100000 in
theorem recB_eq {a b : Rec} : recB a b = true ↔ a = b := by
  obtain ⟨t, k, d⟩ := a
  obtain ⟨t', k', d'⟩ := b
  unfold recB
  simp only [Bool.and_eq_true, beq_iff_eq, toList_inj, Rec.mk.injEq, and_assoc]
set_option maxRecDepth 100000 in
theorem recUnder : Tryz.prog.underlying 51 = some (.struct (Tryz.prog.fieldsOf 51)) := by kernel_rfl
set_option maxRecDepth 100000 in
theorem recHeld : Tryz.prog.stoodInHeld 51 = false := by kernel_rfl
set_option maxRecDepth 100000 in
theorem run_neq_rec (t k : Int) (d : ByteArray) (t' k' : Int) (d' : ByteArray) (w : World) :
    (binOp .neq 51 (.agg #[.int .i64 t, .int .i64 k, .string d]) (.agg #[.int .i64 t', .int .i64 k', .string d'])).run Tryz.prog w = .ok (.bool (!recB ⟨t, k, d⟩ ⟨t', k', d'⟩)) w := by
  rw [run_neq_struct, run_equalIn_struct w 9999 51 _ _ recUnder recHeld]
  simp [go_sem, Tryz.underlying51]
  by_cases h1 : t = t' <;> by_cases h2 : k = k' <;> by_cases h3 : d.toList = d'.toList <;> simp [recB, h1, h2, h3]
set_option maxRecDepth 100000 in
theorem likeR_eq : ∀ {aa bb : List Rec}, aa.length = bb.length → (likeR aa bb = true ↔ aa = bb)
  | [], [], _ => by simp [likeR]
  | a :: aa, b :: bb, h => by
    have ih := likeR_eq (aa := aa) (bb := bb) (by simpa using h)
    unfold likeR
    by_cases e : recB a b = true
    · rw [if_pos e, ih]
      have := recB_eq.1 e
      simp [this]
    · rw [if_neg e]
      have : a ≠ b := fun h => e (recB_eq.2 h)
      simp [this]
set_option maxRecDepth 100000 in
set_option maxHeartbeats 400000 in
theorem LikeRecords_any (A : Option Addr) (n cap : Nat) (rs : List Rec) (A' : Option Addr) (n' cap' : Nat) (rs' : List Rec) (w : World) {B : Nat} (hm : n ≤ 140737488355328) (hm' : n' ≤ 140737488355328)
    (h : Recs w B A n rs) (h' : Recs w B A' n' rs') :
    Calls Tryz.prog 37 #[.slice A n cap, .slice A' n' cap'] w fun e w' => e = .returned (.bool (decide (n = n') && likeR rs rs')) ∧ Below w.heap.size w w' := by
  by_cases e : n = n'
  · subst e
    go_enter Tryz.func37, Tryz.ntmps37
    go_wp2
    go_loopw [13] (fun i wr => ∃ k : Nat, k ≤ n ∧ i = .int .i64 k ∧ Below w.heap.size w wr ∧ Hid (likeR rs rs' = likeR (rs.drop k) (rs'.drop k))) (fun i _ => n - (intOf i).toNat)
    case atStart => exact ⟨0, Nat.zero_le _, rfl, Below.refl _ _, by simp [Hid]⟩
    case round =>
      obtain ⟨k, hk, rfl, hb, hn⟩ := hrel
      by_cases hlt : k < n
      · obtain ⟨b, o, x, rfl, _, hd, ct, ck, cd⟩ := (h.below hb).at_ hlt
        obtain ⟨b', o', y, rfl, _, hd', ct', ck', cd'⟩ := (h'.below hb).at_ hlt
        have hki : (k : Int) < n := by omega
        have hk0 : (0 : Int) ≤ k := by omega
        obtain ⟨xt, xk, xd⟩ := x
        obtain ⟨yt, yk, yd⟩ := y
        dsimp only at *
        have hne := fun w => run_neq_rec xt xk xd yt yk yd w
        go_wp2
        go_region
        all_goals go_wp2
        · have hrb : recB ⟨xt, xk, xd⟩ ⟨yt, yk, yd⟩ = false := by
            have : (!recB ⟨xt, xk, xd⟩ ⟨yt, yk, yd⟩) = true := by assumption
            simpa using this
          go_ret
          exact ⟨ret_bool (by rw [hn.out, hd.out, hd'.out]; simp [likeR, hrb]), hb.drew⟩
        · have hrb : recB ⟨xt, xk, xd⟩ ⟨yt, yk, yd⟩ = true := by
            have : (!recB ⟨xt, xk, xd⟩ ⟨yt, yk, yd⟩) = false := by assumption
            simpa using this
          go_roundw
          case rel => exact ⟨k + 1, by omega, by go_num, hb.drew, by rw [Hid, hn.out, hd.out, hd'.out]; simp [likeR, hrb]⟩
          case measure => simp [intOf]; omega
      · have he := hid_mk (h.end_ hlt)
        go_wp2
        go_ret
        exact ⟨ret_bool (by rw [hn.out, he.out]; simp [likeR]), hb⟩
  · have e1 : ((n : Int) != (n' : Int)) = true := by simp; omega
    go_enter Tryz.func37, Tryz.ntmps37
    go_wp2
    go_ret
    exact ⟨ret_bool (by simp [e]), Below.refl _ _⟩
set_option maxRecDepth 100000 in
theorem cells_drop (rs : List Rec) : ∀ k, (cellsOf rs).drop (k * 3) = cellsOf (rs.drop k) := by
  intro k
  induction k generalizing rs with
  | zero => simp
  | succ k ih =>
    cases rs with
    | nil => simp [cellsOf]
    | cons r rs =>
      have := ih rs
      rw [show (k + 1) * 3 = k * 3 + 3 from by omega]
      simpa [cellsOf, recCells] using this
set_option maxRecDepth 100000 in
theorem cells_take (rs : List Rec) : ∀ k, (cellsOf rs).take (k * 3) = cellsOf (rs.take k) := by
  intro k
  induction k generalizing rs with
  | zero => simp [cellsOf]
  | succ k ih =>
    cases rs with
    | nil => simp [cellsOf]
    | cons r rs =>
      have := ih rs
      rw [show (k + 1) * 3 = k * 3 + 3 from by omega]
      simpa [cellsOf, recCells] using this
set_option maxRecDepth 100000 in
theorem Recs.cutA {w : World} {B n : Nat} {A : Option Addr} {rs : List Rec} (h : Recs w B A n rs) {k cap : Nat} (hk : k ≤ n) (hc : n ≤ cap) : Recs w B (cutA A cap k 3) (n - k) (rs.drop k) := by
  have := Reads.cutA h hk hc
  rw [cells_drop] at this
  exact this
set_option maxRecDepth 100000 in
theorem Recs.take {w : World} {B n : Nat} {A : Option Addr} {rs : List Rec} (h : Recs w B A n rs) {k : Nat} (hk : k ≤ n) : Recs w B A k (rs.take k) := by
  have := Reads.take h hk
  rw [cells_take] at this
  exact this

def behindJ (l : Lg) (at' m : Int) : List Rec :=
  if rightJ l = true ∧ l.base ≤ at' ∧ at' ≤ lastJ l then (l.rs.drop (at' - l.base).toNat).take m.toNat else []

set_option maxRecDepth 100000 in
set_option maxHeartbeats 800000 in
theorem Behind_any (l : Lg) (at' m : Int) (A : Option Addr) (n cap : Nat) (w : World) {B : Nat} (hm : n ≤ 140737488355328) (hcap : n ≤ cap) (h : Recs w B A n l.rs) :
    Calls Tryz.prog 129 #[logV l A n cap, .int .i64 at', .int .i64 m] w (RetRecs B w (behindJ l at' m)) := by
  have hlen := hid_mk h.len
  have nilRet : ∀ (w' : World), behindJ l at' m = [] → Below w.heap.size w w' → RetRecs B w (behindJ l at' m) (.returned (.slice none 0 0)) w' := fun w' e hb => ⟨none, 0, 0, rfl, by rw [e]; exact Reads.none_, Nat.le_refl _, by unfold maxLen; omega, hb⟩
  replace nilRet := hid_mk nilRet
  cases hr : rightJ l
  · replace hr := hid_mk hr
    rw [logV_eq]
    go_enter Tryz.func129, Tryz.ntmps129
    go_wp2_with fail
    rw [← logV_eq]
    refine (Right_any l _ _ _ _ hm (h.to (by go_grown))).mono ?_
    rw [hr.out]
    rintro e w1 ⟨rfl, hb⟩
    obtain ⟨q1, z1, c1, f1⟩ := after (w := w) hb (by go_grown)
    go_wp2
    go_ret
    exact nilRet.out _ (by unfold behindJ; rw [hr.out]; simp) q1
  have hbd := right_bounds hr
  by_cases g1 : at' < l.base
  · replace hr := hid_mk hr
    rw [logV_eq]
    go_enter Tryz.func129, Tryz.ntmps129
    go_wp2_with fail
    rw [← logV_eq]
    refine (Right_any l _ _ _ _ hm (h.to (by go_grown))).mono ?_
    rw [hr.out]
    rintro e w1 ⟨rfl, hb⟩
    obtain ⟨q1, z1, c1, f1⟩ := after (w := w) hb (by go_grown)
    simp only [World.size_alloc] at z1
    go_wp2
    go_ret
    exact nilRet.out _ (by unfold behindJ; rw [if_neg (by omega)]) q1
  have hll : lastJ l = l.base + n := by unfold lastJ; rw [hlen.out]
  by_cases g2 : l.base + n < at'
  · replace hr := hid_mk hr
    have hll := hid_mk hll
    rw [logV_eq]
    go_enter Tryz.func129, Tryz.ntmps129
    go_wp2_with fail
    rw [← logV_eq]
    refine (Right_any l _ _ _ _ hm (h.to (by go_grown))).mono ?_
    rw [hr.out]
    rintro e w1 ⟨rfl, hb⟩
    obtain ⟨q1, z1, c1, f1⟩ := after (w := w) hb (by go_grown)
    simp only [World.size_alloc] at z1
    go_wp2
    go_ret
    exact nilRet.out _ (by unfold behindJ; rw [hll.out, if_neg (by omega)]) (by go_grown)
  replace hll := hid_mk hll
  have hln := hlen.out
  have hn200 : n ≤ 200 := by omega
  obtain ⟨i0, hi0, hz0, hz1, hz2⟩ := info_parts recInfo
  have e1 := fun w => run_slice_from (P := Tryz.prog) w 22 51 Tryz.underlying22 i0 hi0 3 hz1 A n cap (at' - l.base) (by omega) (by omega)
  have hR := h.cutA (k := (at' - l.base).toNat) (cap := cap) (by omega) hcap
  have hB : Hid (behindJ l at' m = (l.rs.drop (at' - l.base).toNat).take m.toNat) := by unfold Hid behindJ; rw [hll.out, if_pos ⟨hr, by omega, by omega⟩]
  obtain ⟨C, hC⟩ : ∃ C, cutA A cap (at' - l.base).toNat 3 = C := ⟨_, rfl⟩
  obtain ⟨q, hq⟩ : ∃ q, n - (at' - l.base).toNat = q := ⟨_, rfl⟩
  obtain ⟨c2, hc2⟩ : ∃ c2, cap - (at' - l.base).toNat = c2 := ⟨_, rfl⟩
  rw [hC, hq] at hR
  simp only [hC, hq, hc2] at e1
  have hqc : q ≤ c2 := by omega
  have hqn : q ≤ 4398046511104 := by omega
  have e2 := fun w => run_slice_upto (P := Tryz.prog) w 22 51 Tryz.underlying22 i0 hi0 C q c2 (min (max m 0) q) (by omega) (by omega)
  obtain ⟨r, hr'⟩ : ∃ r, (min (max m 0) (q : Int)).toNat = r := ⟨_, rfl⟩
  simp only [hr'] at e2
  have hrq : r ≤ q := by omega
  have hT := hR.take hrq
  have hfin : Hid (behindJ l at' m = (l.rs.drop (at' - l.base).toNat).take r) := by
    unfold Hid
    rw [hB.out, ← hr']
    rcases Int.le_total (max m 0) (q : Int) with h1 | h1
    · rw [Int.min_eq_left h1]; congr 1; omega
    · rw [Int.min_eq_right h1, List.take_of_length_le, List.take_of_length_le]
      · rw [List.length_drop, hlen.out]; omega
      · rw [List.length_drop, hlen.out]; omega
  replace hr := hid_mk hr
  clear hC hq hc2 hr' hB hi0 hz0 hz1 hz2 hln
  rw [logV_eq]
  go_enter Tryz.func129, Tryz.ntmps129
  go_wp2_with fail
  rw [← logV_eq]
  refine (Right_any l _ _ _ _ hm (h.to (by go_grown))).mono ?_
  rw [hr.out]
  rintro e w1 ⟨rfl, hb⟩
  obtain ⟨q1, z1, c1, f1⟩ := after (w := w) hb (by go_grown)
  simp only [World.size_alloc] at z1
  have z2 : w.heap.size + 1 < w1.heap.size := by omega
  have z3 : w.heap.size < w1.heap.size := by omega
  go_wp2_with (first | (go_at_call 127; go_must (refine (CloneR_any C r c2 _ _ (by omega) (by omega) (hT.to (by go_grown))).mono ?_; rintro e w3 ⟨A3, n3, c3, rfl, hR3, h31, h32, hb3⟩)) | go_in)
  go_ret
  rw [hfin.out]
  exact ⟨A3, n3, c3, rfl, hR3, h31, h32, (after (w := w) hb3 (by go_grown)).1⟩
/-- the reference's loop -/
def behR (base at' m : Int) (i : Nat) (out : List Rec) : List Rec → List Rec
  | [] => out
  | r :: rs => if at' < base + 1 + i ∧ (out.length : Int) < m then behR base at' m (i + 1) (out ++ [r]) rs else behR base at' m (i + 1) out rs
set_option maxRecDepth 100000 in
theorem behR_full {base at' m : Int} : ∀ {rs : List Rec} {i : Nat} {out : List Rec}, m ≤ out.length → behR base at' m i out rs = out
  | [], _, _, _ => rfl
  | r :: rs, i, out, h => by unfold behR; rw [if_neg (by omega)]; exact behR_full h
set_option maxRecDepth 100000 in
theorem behR_from {base at' m : Int} : ∀ {rs : List Rec} {i : Nat} {out : List Rec}, at' < base + 1 + i → (out.length : Int) ≤ m → behR base at' m i out rs = out ++ rs.take (m - out.length).toNat
  | [], _, out, _, _ => by simp [behR]
  | r :: rs, i, out, h, h' => by
    unfold behR
    by_cases e : (out.length : Int) < m
    · rw [if_pos ⟨h, e⟩, behR_from (by omega) (by simp; omega)]
      obtain ⟨q, hq⟩ : ∃ q, (m - out.length).toNat = q + 1 := ⟨(m - out.length).toNat - 1, by omega⟩
      rw [hq, show (m - ((out ++ [r]).length : Int)).toNat = q from by simp; omega]
      simp
    · rw [if_neg (by omega), behR_full (by omega), show (m - (out.length : Int)).toNat = 0 from by omega]
      simp
set_option maxRecDepth 100000 in
theorem behR_eq {base at' m : Int} : ∀ {rs : List Rec} {i : Nat}, base + i ≤ at' → behR base at' m i [] rs = (rs.drop (at' - base - i).toNat).take m.toNat
  | [], _, _ => by simp [behR]
  | r :: rs, i, h => by
    by_cases hm : m ≤ 0
    · rw [behR_full (by simpa using hm), show m.toNat = 0 from by omega]; simp
    by_cases e : at' < base + 1 + i
    · rw [behR_from e (by simp; omega), show (at' - base - i).toNat = 0 from by omega]
      simp
    · unfold behR
      rw [if_neg (by omega), behR_eq (by omega)]
      obtain ⟨q, hq⟩ : ∃ q, (at' - base - i).toNat = q + 1 := ⟨(at' - base - i).toNat - 1, by omega⟩
      rw [hq, show (at' - base - ((i + 1 : Nat) : Int)).toNat = q from by omega]
      simp

set_option maxRecDepth 100000 in
set_option maxHeartbeats 800000 in
theorem refBehind_any (l : Lg) (at' m : Int) (A : Option Addr) (n cap : Nat) (w : World) {B : Nat} (hm : n ≤ 4398046511103) (h : Recs w B A n l.rs) (h0 : 0 ≤ l.base) (h1 : l.base ≤ 1073741824) :
    Calls Tryz.prog 131 #[logV l A n cap, .int .i64 at', .int .i64 m] w (RetRecs B w (if at' < l.base then [] else (l.rs.drop (at' - l.base).toNat).take m.toNat)) := by
  have hlen := hid_mk h.len
  have hown := World.ownsRow_lit (base := w.heap.size + 1) (e := 51) (size := 3) (w.alloc (.cells #[.int .i64 l.base, .int .i64 l.bt, .slice A n cap] 24)) #[] 0 (by simp) (by unfold maxLen; omega) (by simp)
  have hb0 : Below (w.alloc (.cells #[.int .i64 l.base, .int .i64 l.bt, .slice A n cap] 24)).heap.size (w.alloc (.cells #[.int .i64 l.base, .int .i64 l.bt, .slice A n cap] 24)) ((w.alloc (.cells #[.int .i64 l.base, .int .i64 l.bt, .slice A n cap] 24)).alloc (.cells #[] 51)) := (Below.refl _ _).alloc (Nat.le_refl _) _
  rw [World.size_alloc] at hown
  by_cases g : at' < l.base
  · rw [if_pos g]
    rw [logV_eq]
    go_enter Tryz.func131, Tryz.ntmps131
    go_wp2
    go_ret
    exact ⟨some ⟨w.heap.size + 1, 0, none⟩, 0, 0, rfl, Reads.of_own hown, Nat.le_refl _, by unfold maxLen; omega, by go_grown⟩
  · rw [if_neg g]
    obtain ⟨i0, hi0, hz0, hz1, hz2⟩ := info_parts recInfo
    obtain ⟨W0, hW0⟩ : ∃ W0, w.alloc (.cells #[.int .i64 l.base, .int .i64 l.bt, .slice A n cap] 24) = W0 := ⟨_, rfl⟩
    have hq0 : Below w.heap.size w W0 := by rw [← hW0]; exact (Below.refl _ w).alloc (Nat.le_refl _) _
    have hWs : W0.heap.size = w.heap.size + 1 := by rw [← hW0]; simp
    have hcc : ∀ wr, Below W0.heap.size W0 wr → wr.cell? ⟨w.heap.size, 0, none⟩ = some (.int .i64 l.base) ∧ wr.cell? ⟨w.heap.size, 1, none⟩ = some (.int .i64 l.bt) ∧ wr.cell? ⟨w.heap.size, 2, none⟩ = some (.slice A n cap) := by
      intro wr hb; rw [← hW0] at hb; have k := (Blk.new w 24 #[.int .i64 l.base, .int .i64 l.bt, .slice A n cap]).keep hb; exact ⟨k.cell 0, k.cell 1, k.cell 2⟩
    rw [hW0] at hown hb0
    replace hWs := hid_mk hWs
    replace hW0 := hid_mk hW0
    replace hcc := hid_mk hcc
    rw [logV_eq]
    go_enter Tryz.func131, Tryz.ntmps131
    go_wp2
    rw [hW0.out]
    go_loopw [7, 8, 19] (fun v _ i wr => ∃ (k : Nat) (out : List Rec), k ≤ n ∧ i = .int .i64 k ∧ out.length ≤ k ∧ wr.ownsRow (w.heap.size + 1) 51 3 v out.length (cellsOf out) ∧ Below W0.heap.size W0 wr ∧ Hid (behR l.base at' m 0 [] l.rs = behR l.base at' m k out (l.rs.drop k))) (fun _ _ i _ => n - (intOf i).toNat)
    case atStart => exact ⟨0, [], Nat.zero_le _, rfl, Nat.zero_le _, hown, hb0, by simp [Hid]⟩
    case round =>
      obtain ⟨k, out, hk, rfl, hok, hown1, hb, hn⟩ := hrel
      have qr : Below w.heap.size w wr := hq0.trans (hb.mono hq0.size)
      obtain ⟨A1, cp1, rfl, hc11, hc12⟩ := own_slice hown1
      obtain ⟨b0, b1, b2⟩ := hcc.out wr hb
      have hsz : w.heap.size < wr.heap.size := by have := hb.size; rw [hWs.out] at this; omega
      by_cases hlt : k < n
      · obtain ⟨b, o, r, rfl, hbb, hd, ct, ck, cd⟩ := (h.below qr).at_ hlt
        obtain ⟨rt, rk, rd⟩ := r
        dsimp only at *
        have hk40 : k ≤ 4398046511103 := by omega
        by_cases g1 : at' < l.base + 1 + k
        · by_cases g2 : (out.length : Int) < m
          · have hnew : Reads ((wr.alloc (.cells #[.int .i64 rt, .int .i64 rk, .string rd] 51)).alloc (.cells #[.int .i64 rt, .int .i64 rk, .string rd] 51)) B 51 3 (some ⟨wr.heap.size + 1, 0, none⟩) 1 [.int .i64 rt, .int .i64 rk, .string rd] := by
              have := reads_new (wr.alloc (.cells #[.int .i64 rt, .int .i64 rk, .string rd] 51)) #[.int .i64 rt, .int .i64 rk, .string rd] 51 1 3 B rfl
              simpa using this
            go_wp2_with (at_builtin; refine wpList_append_any _ rfl (.tmp 37) (.tmp 39) _ rfl (w.heap.size + 1) 51 i0 _ 3 32 Tryz.underlying22 hi0 hz0 hz1 hz2 rfl (by omega) _ out.length (cellsOf out) rfl ((hown1.alloc _).alloc _) B (some ⟨wr.heap.size + 1, 0, none⟩) 1 1 [.int .i64 rt, .int .i64 rk, .string rd] rfl hnew (rec_one [⟨rt, rk, rd⟩]) (by simp only [maxLen]; omega) (by omega) (by simp; omega) ?_; intro v1 w1 hown2 hg2 hat2)
            have hb1 : Below W0.heap.size W0 w1 := by
              refine Below.grown ((hb.alloc hb.size _).alloc (by simp; have := hb.size; omega) _) hg2 (by simp; have := hb.size; omega) (fun k hk => ?_)
              rw [hWs.out]; exact (hown1.lt k hk).1
            go_roundw
            case rel => exact ⟨k + 1, out ++ [⟨rt, rk, rd⟩], by omega, by go_num, by simp; omega, by simpa [cellsOf, recCells] using hown2, hb1, by rw [Hid, hn.out, hd.out, behR, if_pos ⟨g1, g2⟩]⟩
            case measure => simp [intOf]; omega
          · go_wp2
            go_roundw
            case rel => exact ⟨k + 1, out, by omega, by go_num, by omega, hown1.alloc _, hb.alloc hb.size _, by rw [Hid, hn.out, hd.out, behR, if_neg (by omega)]⟩
            case measure => simp [intOf]; omega
        · have g1' : decide (at' < l.base + 1 + k) = false := by simpa using g1
          go_wp2
          go_roundw
          case rel => exact ⟨k + 1, out, by omega, by go_num, by omega, hown1.alloc _, hb.alloc hb.size _, by rw [Hid, hn.out, hd.out, behR, if_neg (by omega)]⟩
          case measure => simp [intOf]; omega
      · have he := hid_mk (h.end_ hlt)
        go_wp2
        go_ret
        refine ⟨A1, out.length, cp1, rfl, ?_, hc11, hc12, qr⟩
        have hfin : out = (l.rs.drop (at' - l.base).toNat).take m.toNat := by
          have h1 := hn.out
          rw [he.out] at h1
          have h2 := behR_eq (base := l.base) (at' := at') (m := m) (rs := l.rs) (i := 0) (by omega)
          rw [show at' - l.base - ((0 : Nat) : Int) = at' - l.base from by omega] at h2
          rw [← h2, h1]; rfl
        rw [← hfin]
        exact Reads.of_own hown1
end Go.Proofs.YtncdjmpdbinanaaGreatDoor
namespace Go.Proofs.YtncdjmpdbinanaaGreatDoor
open Go.RowKit

def termAtJ (l : Lg) (at' : Int) : Option Int := if rightJ l then termJ l at' else none
set_option maxRecDepth 100000 in
set_option maxHeartbeats 400000 in
theorem TermAt_any (l : Lg) (at' : Int) (A : Option Addr) (n cap : Nat) (w : World) {B : Nat} (hm : n ≤ 140737488355328) (h : Recs w B A n l.rs) :
    Calls Tryz.prog 84 #[logV l A n cap, .int .i64 at'] w fun e w' => e = .returned (.tuple #[.int .i64 ((termAtJ l at').getD 0), .bool (termAtJ l at').isSome]) ∧ Below w.heap.size w w' := by
  cases hr : rightJ l
  · have hz : Hid (termAtJ l at' = none) := by unfold Hid termAtJ; rw [hr]; rfl
    replace hr := hid_mk hr
    rw [logV_eq]
    go_enter Tryz.func84, Tryz.ntmps84
    go_wp2_with fail
    rw [← logV_eq]
    refine (Right_any l _ _ _ _ hm (h.to (by go_grown))).mono ?_
    rw [hr.out]
    rintro e w1 ⟨rfl, hb⟩
    obtain ⟨q1, z1, c1, f1⟩ := after (w := w) hb (by go_grown)
    go_wp2
    go_ret2
    exact ⟨by rw [hz.out]; rfl, q1⟩
  · have hbd := right_bounds hr
    have hz : Hid (termAtJ l at' = termJ l at') := by unfold Hid termAtJ; rw [hr]; rfl
    replace hr := hid_mk hr
    rw [logV_eq]
    go_enter Tryz.func84, Tryz.ntmps84
    go_wp2_with fail
    rw [← logV_eq]
    refine (Right_any l _ _ _ _ hm (h.to (by go_grown))).mono ?_
    rw [hr.out]
    rintro e w1 ⟨rfl, hb⟩
    obtain ⟨q1, z1, c1, f1⟩ := after (w := w) hb (by go_grown)
    simp only [World.size_alloc] at z1
    go_wp2_with (go_at_call 104; refine (vterm_any l _ A n cap _ hm (h.to (by go_grown)) hbd.1 hbd.2.1).mono ?_; rintro e w3 ⟨rfl, hb3⟩; obtain ⟨q3, z3, c3, f3⟩ := after (w := w) hb3 (by go_grown))
    go_ret2
    exact ⟨by rw [hz.out]; rfl, q3⟩
set_option maxRecDepth 100000 in
theorem law_behind (l : Lg) (at' m : Int) (hr : rightJ l = true) : behindJ l at' m = if at' < l.base then [] else (l.rs.drop (at' - l.base).toNat).take m.toNat := by
  unfold behindJ lastJ
  by_cases g : at' < l.base
  · rw [if_pos g, if_neg (by omega)]
  · rw [if_neg g]
    by_cases g2 : at' ≤ l.base + l.rs.length
    · rw [if_pos ⟨hr, by omega, g2⟩]
    · rw [if_neg (by omega), List.drop_eq_nil_of_le (by omega)]; simp

set_option maxRecDepth 100000 in
theorem okRecs_nonneg : ∀ {rs : List Rec} {t : Int}, 0 ≤ t → okRecs t rs = true → ∀ r ∈ rs, 0 ≤ r.t
  | [], _, _, _ => by simp
  | r :: rs, t, ht, h => by
    unfold okRecs inB at h
    split at h
    · rename_i hc
      simp only [Bool.and_eq_true, decide_eq_true_eq] at hc
      intro x hx
      rcases List.mem_cons.1 hx with rfl | hx
      · omega
      · exact okRecs_nonneg (by omega) h x hx
    · cases h
set_option maxRecDepth 100000 in
theorem termJ_nonneg {l : Lg} (h : rightJ l = true) : ∀ at' v, termJ l at' = some v → 0 ≤ v := by
  intro at' v hv
  have hb := right_bounds h
  have ho : okRecs (max l.bt 1) l.rs = true := by
    unfold rightJ at h
    simp only [Bool.and_eq_true] at h
    exact h.2
  unfold termJ at hv
  split at hv
  · cases hv; omega
  · split at hv
    · rw [Option.map_eq_some_iff] at hv
      obtain ⟨r, hr, rfl⟩ := hv
      exact okRecs_nonneg (by omega) ho r (List.mem_of_getElem? hr)
    · cases hv
set_option maxRecDepth 100000 in
theorem termJ_last {l : Lg} (h : rightJ l = true) : ∃ v, termJ l (lastJ l) = some v ∧ 0 ≤ v := by
  have : ∃ v, termJ l (lastJ l) = some v := by
    unfold termJ lastJ
    by_cases e : l.base + (l.rs.length : Int) = l.base
    · rw [if_pos e]; exact ⟨_, rfl⟩
    · rw [if_neg e, if_pos (by omega), List.getElem?_eq_getElem (by omega)]; exact ⟨_, rfl⟩
  obtain ⟨v, hv⟩ := this
  exact ⟨v, hv, termJ_nonneg h _ _ hv⟩
end Go.Proofs.YtncdjmpdbinanaaGreatDoor
namespace Go.Proofs.YtncdjmpdbinanaaGreatDoor
open Go.RowKit

/-- a log and an error are handed back, and nothing that was there has turned -/
def RetLogE (B : Nat) (w : World) (l : Lg) (er : Int) (e : Ending) (w' : World) : Prop :=
  ∃ A n cap, e = .returned (.tuple #[logV l A n cap, .int .i64 er]) ∧ Recs w' B A n l.rs ∧ n ≤ cap ∧ cap ≤ maxLen ∧ Below w.heap.size w w'
def RetLog (B : Nat) (w : World) (l : Lg) (e : Ending) (w' : World) : Prop :=
  ∃ A n cap, e = .returned (logV l A n cap) ∧ Recs w' B A n l.rs ∧ n ≤ cap ∧ cap ≤ maxLen ∧ Below w.heap.size w w'
def zeroL : Lg := ⟨0, 0, []⟩
def compactJ (l : Lg) (to : Int) : Lg × Int :=
  if rightJ l then match termJ l to with
    | none => (zeroL, 150)
    | some t => (⟨to, t, l.rs.drop (to - l.base).toNat⟩, 0)
  else (zeroL, 1)

set_option maxRecDepth 100000 in
theorem termJ_range {l : Lg} {at' t : Int} (h : termJ l at' = some t) : l.base ≤ at' ∧ at' ≤ l.base + l.rs.length := by
  unfold termJ lastJ at h
  split at h
  · omega
  · split at h
    · omega
    · cases h

set_option maxRecDepth 100000 in
set_option maxHeartbeats 800000 in
theorem Compact_any (l : Lg) (to : Int) (A : Option Addr) (n cap : Nat) (w : World) {B : Nat} (hB : B ≤ w.heap.size) (hm : n ≤ 140737488355328) (hcap : n ≤ cap) (h : Recs w B A n l.rs) :
    Calls Tryz.prog 120 #[logV l A n cap, .int .i64 to] w (RetLogE B w (compactJ l to).1 (compactJ l to).2) := by
  have hlen := hid_mk h.len
  have hX := hid_mk ((Blk.new w 24 #[.int .i64 l.base, .int .i64 l.bt, .slice A n cap]).alloc (.cells #[.int .i64 0, .int .i64 0, .slice none 0 0] 24))
  have hY := hid_mk (Blk.new (w.alloc (.cells #[.int .i64 l.base, .int .i64 l.bt, .slice A n cap] 24)) 24 #[.int .i64 0, .int .i64 0, .slice none 0 0])
  cases hr : rightJ l
  · have hz : Hid (compactJ l to = (zeroL, 1)) := by unfold Hid compactJ; rw [hr]; rfl
    replace hr := hid_mk hr
    rw [hz.out, logV_eq]
    go_enter Tryz.func120, Tryz.ntmps120
    go_wp2_with fail
    rw [← logV_eq]
    refine (Right_any l _ _ _ _ hm (h.to (by go_grown))).mono ?_
    rw [hr.out]
    rintro e w1 ⟨rfl, hb⟩
    have q1 := (after (w := w) hb (by go_grown)).1
    replace hY := hid_mk (hY.out.keep hb)
    obtain ⟨hg, y0, y1, y2, z0, z1, z2⟩ := blk3f hY.out
    rw [World.size_alloc] at hg y0 y1 y2 z0 z1 z2
    have hb_ := hb.size; clear hb
    go_wp2
    refine bodyPost_ret (v := .tuple #[.agg #[.int .i64 0, .int .i64 0, .slice none 0 0], .int .i64 1]) (by simp [results, Tryz.results120, go_sem, y0, y1, y2]) rfl ?_
    exact ⟨none, 0, 0, rfl, Reads.none_, Nat.le_refl _, by unfold maxLen; omega, set3_below _ _ _ q1 (by simp)⟩
  · have hbd := right_bounds hr
    cases hta : termJ l to with
    | none =>
      have hz : Hid (compactJ l to = (zeroL, 150)) := by unfold Hid compactJ; rw [hr, if_pos rfl, hta]
      replace hr := hid_mk hr
      replace hta := hid_mk hta
      rw [hz.out, logV_eq]
      go_enter Tryz.func120, Tryz.ntmps120
      go_wp2_with fail
      rw [← logV_eq]
      refine (Right_any l _ _ _ _ hm (h.to (by go_grown))).mono ?_
      rw [hr.out]
      rintro e w1 ⟨rfl, hb⟩
      have q1 := (after (w := w) hb (by go_grown)).1
      replace hX := hid_mk (hX.out.keep hb)
      replace hY := hid_mk (hY.out.keep hb)
      obtain ⟨hgx, x0, x1, x2⟩ := blk3 hX.out
      have hb_ := hb.size; clear hb
      go_wp2_with fail
      rw [← logV_eq]
      refine (vterm_any l _ _ _ _ _ hm (h.to (by go_grown)) hbd.1 hbd.2.1).mono ?_
      rw [hta.out]
      rintro e w2 ⟨rfl, hb⟩
      have q2 := (after (w := w) hb (by go_grown)).1
      clear hgx x0 x1 x2
      replace hY := hid_mk (hY.out.keep (after hb (by go_grown)).1)
      obtain ⟨hg, y0, y1, y2, z0, z1, z2⟩ := blk3f hY.out
      rw [World.size_alloc] at hg y0 y1 y2 z0 z1 z2
      clear hb
      go_wp2
      refine bodyPost_ret (v := .tuple #[.agg #[.int .i64 0, .int .i64 0, .slice none 0 0], .int .i64 150]) (by simp [results, Tryz.results120, go_sem, y0, y1, y2]) rfl ?_
      exact ⟨none, 0, 0, rfl, Reads.none_, Nat.le_refl _, by unfold maxLen; omega, set3_below _ _ _ q2 (by simp)⟩
    | some t =>
      have hz : Hid (compactJ l to = (⟨to, t, l.rs.drop (to - l.base).toNat⟩, 0)) := by unfold Hid compactJ; rw [hr, if_pos rfl, hta]
      have hrg := termJ_range hta
      have hln := hlen.out
      obtain ⟨i0, hi0, hz0, hz1, hz2⟩ := info_parts recInfo
      have e1 := fun w => run_slice_from (P := Tryz.prog) w 22 51 Tryz.underlying22 i0 hi0 3 hz1 A n cap (to - l.base) (by omega) (by omega)
      have hR := h.cutA (k := (to - l.base).toNat) (cap := cap) (by omega) hcap
      obtain ⟨C, hC⟩ : ∃ C, cutA A cap (to - l.base).toNat 3 = C := ⟨_, rfl⟩
      obtain ⟨q, hq⟩ : ∃ q, n - (to - l.base).toNat = q := ⟨_, rfl⟩
      obtain ⟨c2, hc2⟩ : ∃ c2, cap - (to - l.base).toNat = c2 := ⟨_, rfl⟩
      rw [hC, hq] at hR
      simp only [hC, hq, hc2] at e1
      have hqc : q ≤ c2 := by omega
      have hqn : q ≤ 200 := by omega
      clear hC hq hc2 hi0 hz0 hz1 hz2 hln
      replace hr := hid_mk hr
      replace hta := hid_mk hta
      rw [hz.out, logV_eq]
      go_enter Tryz.func120, Tryz.ntmps120
      go_wp2_with fail
      rw [← logV_eq]
      refine (Right_any l _ _ _ _ hm (h.to (by go_grown))).mono ?_
      rw [hr.out]
      rintro e w1 ⟨rfl, hb⟩
      have q1 := (after (w := w) hb (by go_grown)).1
      replace hX := hid_mk (hX.out.keep hb)
      replace hY := hid_mk (hY.out.keep hb)
      obtain ⟨hgx, x0, x1, x2⟩ := blk3 hX.out
      have hb_ := hb.size; clear hb
      go_wp2_with fail
      rw [← logV_eq]
      refine (vterm_any l _ _ _ _ _ hm (h.to (by go_grown)) hbd.1 hbd.2.1).mono ?_
      rw [hta.out]
      rintro e w2 ⟨rfl, hb⟩
      have q2 := (after (w := w) hb (by go_grown)).1
      clear hgx x0 x1 x2
      replace hX := hid_mk (hX.out.keep (after hb (by go_grown)).1)
      replace hY := hid_mk (hY.out.keep (after hb (by go_grown)).1)
      obtain ⟨hgx, x0, x1, x2⟩ := blk3 hX.out
      have hb_ := hb.size; clear hb
      go_wp2_with fail
      refine (CloneR_any C q c2 _ _ (by omega) (by omega) (hR.to (by go_grown))).mono ?_
      rintro e w3 ⟨A3, n3, c3, rfl, hR3, h31, h32, hb⟩
      have q3 := (after (w := w) hb (by go_grown)).1
      clear hgx x0 x1 x2
      replace hY := hid_mk (hY.out.keep (after hb (by go_grown)).1)
      obtain ⟨hg, y0, y1, y2, z0, z1, z2⟩ := blk3f hY.out
      rw [World.size_alloc] at hg y0 y1 y2 z0 z1 z2
      clear hb
      go_wp2
      refine bodyPost_ret (v := .tuple #[.agg #[.int .i64 to, .int .i64 t, .slice A3 n3 c3], .int .i64 0]) (by simp [results, Tryz.results120, go_sem, y0, y1, y2]) rfl ?_
      have hY2 := hY.out
      rw [World.size_alloc] at hY2
      exact ⟨A3, n3, c3, rfl, set3_reads hY2 _ _ _ (by omega) (by decide) hR3, h31, h32, set3_below _ _ _ q3 (by simp)⟩
set_option maxRecDepth 100000 in
set_option maxHeartbeats 400000 in
theorem own_any (l : Lg) (A : Option Addr) (n cap : Nat) (w : World) {B : Nat} (hB : B ≤ w.heap.size) (hm : n ≤ 4398046511104) (hcap : n ≤ cap) (h : Recs w B A n l.rs) :
    Calls Tryz.prog 119 #[logV l A n cap] w (RetLog B w l) := by
  have hX := hid_mk ((Blk.new w 24 #[.int .i64 l.base, .int .i64 l.bt, .slice A n cap]).alloc (.cells #[.int .i64 0, .int .i64 0, .slice none 0 0] 24))
  have hY := hid_mk (Blk.new (w.alloc (.cells #[.int .i64 l.base, .int .i64 l.bt, .slice A n cap] 24)) 24 #[.int .i64 0, .int .i64 0, .slice none 0 0])
  rw [logV_eq]
  go_enter Tryz.func119, Tryz.ntmps119
  go_wp2_with fail
  refine (CloneR_any A n cap _ _ hm hcap (h.to (by go_grown))).mono ?_
  rintro e w3 ⟨A3, n3, c3, rfl, hR3, h31, h32, hb⟩
  have q3 := (after (w := w) hb (by go_grown)).1
  replace hX := hid_mk (hX.out.keep hb)
  replace hY := hid_mk (hY.out.keep hb)
  obtain ⟨hgx, x0, x1, x2, f0, f1, f2⟩ := blk3f hX.out
  obtain ⟨hg, y0, y1, y2, z0, z1, z2⟩ := blk3f hY.out
  rw [World.size_alloc] at hg y0 y1 y2 z0 z1 z2
  clear hb
  go_wp2
  refine bodyPost_ret (v := .agg #[.int .i64 l.base, .int .i64 l.bt, .slice A3 n3 c3]) (by simp [results, Tryz.results119, go_sem, y0, y1, y2]) rfl ?_
  have hY2 := hY.out
  rw [World.size_alloc] at hY2
  have hY3 : Blk (w3.setCell ⟨w.heap.size, 2, none⟩ (.slice A3 n3 c3)) (w.heap.size + 1) 24 _ := hY2.far (p := ⟨w.heap.size, 2, none⟩) (by simp) _
  have hR4 : Recs (w3.setCell ⟨w.heap.size, 2, none⟩ (.slice A3 n3 c3)) B A3 n3 l.rs := Reads.far hR3 hX.out hB (by decide) 2 _
  exact ⟨A3, n3, c3, rfl, set3_reads hY3 _ _ _ (by omega) (by decide) hR4, h31, h32, set3_below _ _ _ (q3.setCell (p := ⟨w.heap.size, 2, none⟩) (Nat.le_refl _) _) (by simp)⟩
def adoptJ (l : Lg) (at' term : Int) : Lg :=
  if rightJ l && rightJ ⟨at', term, []⟩ then
    if at' ≤ l.base then l
    else match termJ l at' with
      | some t => if t = term then (compactJ l at').1 else ⟨at', term, []⟩
      | none => ⟨at', term, []⟩
  else zeroL
end Go.Proofs.YtncdjmpdbinanaaGreatDoor
namespace Go.Proofs.YtncdjmpdbinanaaGreatDoor
open Go.RowKit

end Go.Proofs.YtncdjmpdbinanaaGreatDoor
namespace Go.Proofs.YtncdjmpdbinanaaGreatDoor
open Go.RowKit

/-- a row of the call's own is handed back -/
def RetOwn (w : World) (e : TypeId) (n : Nat) (xs : List Value) (en : Ending) (w' : World) : Prop :=
  ∃ A c, en = .returned (.slice A n c) ∧ w'.ownsRow w.heap.size e 3 (.slice A n c) n xs ∧ n ≤ c ∧ Below w.heap.size w w'
set_option maxRecDepth 100000 in
theorem CloneR_own (A : Option Addr) (n cap : Nat) (rs : List Rec) (w : World) {B : Nat} (hm : n ≤ 4398046511104) (h : Recs w B A n rs) :
    Calls Tryz.prog 127 #[.slice A n cap] w (RetOwn w 51 n (cellsOf rs)) := by
  have hq := fun (A : Option Addr) (w : World) => Lib.run_eql_slice_nil (P := Tryz.prog) w 22 51 A n cap 0 0 Tryz.underlying22
  rcases A with _ | ad
  · have hn : n = 0 := by
      rcases Nat.eq_zero_or_pos n with h0 | h0
      · exact h0
      · obtain ⟨_, _, e, _⟩ := h.2 h0; cases e
    subst hn
    have hrs : rs = [] := List.eq_nil_of_length_eq_zero h.len
    replace hq := hq none
    go_enter Tryz.func127, Tryz.ntmps127
    go_wp2
    go_ret
    exact ⟨none, 0, rfl, by rw [hrs]; exact World.ownsRow_nil _ _ _ _, Nat.le_refl _, Below.refl _ _⟩
  · obtain ⟨i0, hi0, hz0, hz1, hz2⟩ := info_parts recInfo
    replace hq := hq (some ad)
    have hown := World.ownsRow_lit (base := w.heap.size) (e := 51) (size := 3) w #[] 0 (Nat.le_refl _) (by unfold maxLen; omega) (by simp)
    have hI : Reads (w.alloc (.cells #[] 51)) B 51 3 (some ad) n (cellsOf rs) := Reads.to h ((Below.refl _ w).alloc (Nat.le_refl _) _)
    go_enter Tryz.func127, Tryz.ntmps127
    go_wp2_with (at_builtin; refine wpList_append_any _ rfl (.tmp 5) (.tmp 6) _ rfl w.heap.size 51 i0 _ 3 32 Tryz.underlying22 hi0 hz0 hz1 hz2 rfl (by omega) _ 0 [] rfl hown B (some ad) n cap (cellsOf rs) rfl hI (rec_one rs) (by simp only [maxLen]; omega) (by omega) (by simp) ?_; intro v1 w1 hown1 hg1 hat1)
    go_ret
    simp only [Nat.zero_add, List.nil_append] at hown1
    obtain ⟨A', c', rfl, hc1, _⟩ := own_slice hown1
    refine ⟨A', c', rfl, hown1, hc1, ?_⟩
    have hb : Below w.heap.size w (w.alloc (.cells #[] 51)) := (Below.refl _ w).alloc (Nat.le_refl _) _
    exact hb.grown hg1 (by simp) (fun k hk => by cases hk; exact Nat.le_refl _)
set_option maxRecDepth 100000 in
theorem prInfo : (Tryz.prog.info? 53).map (fun i => (i.zero, i.size, i.bytes)) = some (some (.agg #[.int .i64 0, .int .i64 0, .int .i64 0]), 3, 24) := by kernel_rfl
theorem pr_one (rs : List Pr) : ∀ u ∈ prsL rs, u.oneCell' = true := by
  intro u hu
  unfold prsL prCells at hu
  simp only [List.mem_flatMap, List.mem_cons, List.mem_nil_iff, or_false] at hu
  obtain ⟨r, _, rfl | rfl | rfl⟩ := hu <;> rfl
set_option maxRecDepth 100000 in
theorem CloneP_own (A : Option Addr) (n cap : Nat) (rs : List Pr) (w : World) {B : Nat} (hm : n ≤ 4398046511104) (h : Prs w B A n rs) :
    Calls Tryz.prog 95 #[.slice A n cap] w (RetOwn w 53 n (prsL rs)) := by
  have hq := fun (A : Option Addr) (w : World) => Lib.run_eql_slice_nil (P := Tryz.prog) w 28 53 A n cap 0 0 Tryz.underlying28
  rcases A with _ | ad
  · have hn : n = 0 := by
      rcases Nat.eq_zero_or_pos n with h0 | h0
      · exact h0
      · obtain ⟨_, _, e, _⟩ := h.2 h0; cases e
    subst hn
    have hrs : rs = [] := List.eq_nil_of_length_eq_zero h.len
    replace hq := hq none
    go_enter Tryz.func95, Tryz.ntmps95
    go_wp2
    go_ret
    exact ⟨none, 0, rfl, by rw [hrs]; exact World.ownsRow_nil _ _ _ _, Nat.le_refl _, Below.refl _ _⟩
  · obtain ⟨i0, hi0, hz0, hz1, hz2⟩ := info_parts prInfo
    replace hq := hq (some ad)
    have hown := World.ownsRow_lit (base := w.heap.size) (e := 53) (size := 3) w #[] 0 (Nat.le_refl _) (by unfold maxLen; omega) (by simp)
    have hI : Reads (w.alloc (.cells #[] 53)) B 53 3 (some ad) n (prsL rs) := Reads.to h ((Below.refl _ w).alloc (Nat.le_refl _) _)
    go_enter Tryz.func95, Tryz.ntmps95
    go_wp2_with (at_builtin; refine wpList_append_any _ rfl (.tmp 5) (.tmp 6) _ rfl w.heap.size 53 i0 _ 3 24 Tryz.underlying28 hi0 hz0 hz1 hz2 rfl (by omega) _ 0 [] rfl hown B (some ad) n cap (prsL rs) rfl hI (pr_one rs) (by simp only [maxLen]; omega) (by omega) (by simp) ?_; intro v1 w1 hown1 hg1 hat1)
    go_ret
    simp only [Nat.zero_add, List.nil_append] at hown1
    obtain ⟨A', c', rfl, hc1, _⟩ := own_slice hown1
    refine ⟨A', c', rfl, hown1, hc1, ?_⟩
    have hb : Below w.heap.size w (w.alloc (.cells #[] 53)) := (Below.refl _ w).alloc (Nat.le_refl _) _
    exact hb.grown hg1 (by simp) (fun k hk => by cases hk; exact Nat.le_refl _)
end Go.Proofs.YtncdjmpdbinanaaGreatDoor
