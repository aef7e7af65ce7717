/-
  WHAT IS PROVED HERE: what slices.Clone at records, journal.Behind and the reference's Behind and LikeRecords hand back. Conditions: slices of at most 2^42 records.
  WHAT IS PROVED HERE: what journal.TermAt hands back. Conditions: the records' slice is of at most 2^42 elements.
  WHAT IS PROVED HERE: what journal.Compact, Adopt, own and the reference's From, Adopt, Like hand back. Conditions: slices of at most 2^42 records.
  WHAT IS PROVED HERE: what journal.Adopt and the reference's From and Adopt hand back. Conditions: slices of at most 2^42 records.
  WHAT IS PROVED HERE: what slices.Clone of records and of peers hands back: a row of the call's own. Condition: at most 2^42 elements.
-/
import Derived.Test.YtncdjmpdbinanaaGreatDoorZGJrn
import Derived.Test.YtncdjmpdbinanaaGreatDoorZGMem
namespace Go.Proofs.YtncdjmpdbinanaaGreatDoor
open Go.RowKit

/-- a slice of records is handed back, and nothing that was there has turned -/
def RetRecs (B : Nat) (w : World) (rs : List Rec) (e : Ending) (w' : World) : Prop :=
  ∃ A n cap, e = .returned (.slice A n cap) ∧ Recs w' B A n rs ∧ n ≤ cap ∧ cap ≤ maxLen ∧ Below w.heap.size w w'

set_option maxRecDepth 100000 in
theorem rec_one (rs : List Rec) : ∀ u ∈ cellsOf rs, u.oneCell' = true := by
  intro u hu
  unfold cellsOf recCells at hu
  simp only [List.mem_flatMap, List.mem_cons, List.mem_nil_iff, or_false] at hu
  obtain ⟨r, _, rfl | rfl | rfl⟩ := hu <;> rfl

set_option maxRecDepth 100000 in
theorem recInfo : (Tryz.prog.info? 51).map (fun i => (i.zero, i.size, i.bytes)) = some (some (.agg #[.int .i64 0, .int .i64 0, .string ByteArray.empty]), 3, 32) := by kernel_rfl

set_option maxRecDepth 100000 in
theorem CloneR_any (A : Option Addr) (n cap : Nat) (rs : List Rec) (w : World) {B : Nat} (hm : n ≤ 4398046511104) (hcap : n ≤ cap) (h : Recs w B A n rs) :
    Calls Tryz.prog 127 #[.slice A n cap] w (RetRecs B w rs) := by
  have hq := fun (A : Option Addr) (w : World) => Lib.run_eql_slice_nil (P := Tryz.prog) w 22 51 A n cap 0 0 Tryz.underlying22
  rcases A with _ | ad
  · have hn : n = 0 := by
      rcases Nat.eq_zero_or_pos n with h0 | h0
      · exact h0
      · obtain ⟨_, _, e, _⟩ := h.2 h0; cases e
    subst hn
    have hrs : rs = [] := List.eq_nil_of_length_eq_zero h.len
    replace hq := hq none
    go_enter Tryz.func127, Tryz.ntmps127
    go_wp2
    go_ret
    exact ⟨none, 0, 0, rfl, by rw [hrs]; exact Reads.none_, Nat.le_refl _, by unfold maxLen; omega, Below.refl _ _⟩
  · obtain ⟨i0, hi0, hz0, hz1, hz2⟩ := info_parts recInfo
    replace hq := hq (some ad)
    have hown := World.ownsRow_lit (base := w.heap.size) (e := 51) (size := 3) w #[] 0 (Nat.le_refl _) (by unfold maxLen; omega) (by simp)
    have hI : Reads (w.alloc (.cells #[] 51)) B 51 3 (some ad) n (cellsOf rs) := Reads.to h ((Below.refl _ w).alloc (Nat.le_refl _) _)
    go_enter Tryz.func127, Tryz.ntmps127
    go_wp2_with (at_builtin; refine wpList_append_any _ rfl (.tmp 5) (.tmp 6) _ rfl w.heap.size 51 i0 _ 3 32 Tryz.underlying22 hi0 hz0 hz1 hz2 rfl (by omega) _ 0 [] rfl hown B (some ad) n cap (cellsOf rs) rfl hI (rec_one rs) (by simp only [maxLen]; omega) (by omega) (by simp) ?_; intro v1 w1 hown1 hg1 hat1)
    go_ret
    simp only [Nat.zero_add, List.nil_append] at hown1
    obtain ⟨A', c', rfl, hc1, hc2⟩ := own_slice hown1
    refine ⟨A', n, c', rfl, reads_of_own hown1, hc1, hc2, ?_⟩
    have hb : Below w.heap.size w (w.alloc (.cells #[] 51)) := (Below.refl _ w).alloc (Nat.le_refl _) _
    exact hb.grown hg1 (by simp) (fun k hk => by cases hk; exact Nat.le_refl _)
set_option maxRecDepth 100000 in
theorem cells_drop (rs : List Rec) : ∀ k, (cellsOf rs).drop (k * 3) = cellsOf (rs.drop k) := by
  intro k
  induction k generalizing rs with
  | zero => simp
  | succ k ih =>
    cases rs with
    | nil => simp [cellsOf]
    | cons r rs =>
      have := ih rs
      rw [show (k + 1) * 3 = k * 3 + 3 from by omega]
      simpa [cellsOf, recCells] using this
set_option maxRecDepth 100000 in
theorem cells_take (rs : List Rec) : ∀ k, (cellsOf rs).take (k * 3) = cellsOf (rs.take k) := by
  intro k
  induction k generalizing rs with
  | zero => simp [cellsOf]
  | succ k ih =>
    cases rs with
    | nil => simp [cellsOf]
    | cons r rs =>
      have := ih rs
      rw [show (k + 1) * 3 = k * 3 + 3 from by omega]
      simpa [cellsOf, recCells] using this
set_option maxRecDepth 100000 in
theorem Recs.cutA {w : World} {B n : Nat} {A : Option Addr} {rs : List Rec} (h : Recs w B A n rs) {k cap : Nat} (hk : k ≤ n) (hc : n ≤ cap) : Recs w B (cutA A cap k 3) (n - k) (rs.drop k) := by
  have := Reads.cutA h hk hc
  rw [cells_drop] at this
  exact this
set_option maxRecDepth 100000 in
theorem Recs.take {w : World} {B n : Nat} {A : Option Addr} {rs : List Rec} (h : Recs w B A n rs) {k : Nat} (hk : k ≤ n) : Recs w B A k (rs.take k) := by
  have := Reads.take h hk
  rw [cells_take] at this
  exact this

def behindJ (l : Lg) (at' m : Int) : List Rec :=
  if rightJ l = true ∧ l.base ≤ at' ∧ at' ≤ lastJ l then (l.rs.drop (at' - l.base).toNat).take m.toNat else []

set_option maxRecDepth 100000 in
set_option maxHeartbeats 800000 in
theorem Behind_any (l : Lg) (at' m : Int) (A : Option Addr) (n cap : Nat) (w : World) {B : Nat} (hm : n ≤ 140737488355328) (hcap : n ≤ cap) (h : Recs w B A n l.rs) :
    Calls Tryz.prog 129 #[logV l A n cap, .int .i64 at', .int .i64 m] w (RetRecs B w (behindJ l at' m)) := by
  have hlen := hid_mk h.len
  have nilRet : ∀ (w' : World), behindJ l at' m = [] → Below w.heap.size w w' → RetRecs B w (behindJ l at' m) (.returned (.slice none 0 0)) w' := fun w' e hb => ⟨none, 0, 0, rfl, by rw [e]; exact Reads.none_, Nat.le_refl _, by unfold maxLen; omega, hb⟩
  replace nilRet := hid_mk nilRet
  cases hr : rightJ l
  · replace hr := hid_mk hr
    rw [logV_eq]
    go_enter Tryz.func129, Tryz.ntmps129
    go_wp2_with fail
    rw [← logV_eq]
    refine (Right_any l _ _ _ _ hm (h.to (by go_grown))).mono ?_
    rw [hr.out]
    rintro e w1 ⟨rfl, hb⟩
    obtain ⟨q1, z1, c1, f1⟩ := after (w := w) hb (by go_grown)
    go_wp2
    go_ret
    exact nilRet.out _ (by unfold behindJ; rw [hr.out]; simp) q1
  have hbd := right_bounds hr
  by_cases g1 : at' < l.base
  · replace hr := hid_mk hr
    rw [logV_eq]
    go_enter Tryz.func129, Tryz.ntmps129
    go_wp2_with fail
    rw [← logV_eq]
    refine (Right_any l _ _ _ _ hm (h.to (by go_grown))).mono ?_
    rw [hr.out]
    rintro e w1 ⟨rfl, hb⟩
    obtain ⟨q1, z1, c1, f1⟩ := after (w := w) hb (by go_grown)
    simp only [World.size_alloc] at z1
    go_wp2
    go_ret
    exact nilRet.out _ (by unfold behindJ; rw [if_neg (by omega)]) q1
  have hll : lastJ l = l.base + n := by unfold lastJ; rw [hlen.out]
  by_cases g2 : l.base + n < at'
  · replace hr := hid_mk hr
    have hll := hid_mk hll
    rw [logV_eq]
    go_enter Tryz.func129, Tryz.ntmps129
    go_wp2_with fail
    rw [← logV_eq]
    refine (Right_any l _ _ _ _ hm (h.to (by go_grown))).mono ?_
    rw [hr.out]
    rintro e w1 ⟨rfl, hb⟩
    obtain ⟨q1, z1, c1, f1⟩ := after (w := w) hb (by go_grown)
    simp only [World.size_alloc] at z1
    go_wp2
    go_ret
    exact nilRet.out _ (by unfold behindJ; rw [hll.out, if_neg (by omega)]) (by go_grown)
  replace hll := hid_mk hll
  have hln := hlen.out
  have hn200 : n ≤ 200 := by omega
  obtain ⟨i0, hi0, hz0, hz1, hz2⟩ := info_parts recInfo
  have e1 := fun w => run_slice_from (P := Tryz.prog) w 22 51 Tryz.underlying22 i0 hi0 3 hz1 A n cap (at' - l.base) (by omega) (by omega)
  have hR := h.cutA (k := (at' - l.base).toNat) (cap := cap) (by omega) hcap
  have hB : Hid (behindJ l at' m = (l.rs.drop (at' - l.base).toNat).take m.toNat) := by unfold Hid behindJ; rw [hll.out, if_pos ⟨hr, by omega, by omega⟩]
  obtain ⟨C, hC⟩ : ∃ C, cutA A cap (at' - l.base).toNat 3 = C := ⟨_, rfl⟩
  obtain ⟨q, hq⟩ : ∃ q, n - (at' - l.base).toNat = q := ⟨_, rfl⟩
  obtain ⟨c2, hc2⟩ : ∃ c2, cap - (at' - l.base).toNat = c2 := ⟨_, rfl⟩
  rw [hC, hq] at hR
  simp only [hC, hq, hc2] at e1
  have hqc : q ≤ c2 := by omega
  have hqn : q ≤ 4398046511104 := by omega
  have e2 := fun w => run_slice_upto (P := Tryz.prog) w 22 51 Tryz.underlying22 i0 hi0 C q c2 (min (max m 0) q) (by omega) (by omega)
  obtain ⟨r, hr'⟩ : ∃ r, (min (max m 0) (q : Int)).toNat = r := ⟨_, rfl⟩
  simp only [hr'] at e2
  have hrq : r ≤ q := by omega
  have hT := hR.take hrq
  have hfin : Hid (behindJ l at' m = (l.rs.drop (at' - l.base).toNat).take r) := by
    unfold Hid
    rw [hB.out, ← hr']
    rcases Int.le_total (max m 0) (q : Int) with h1 | h1
    · rw [Int.min_eq_left h1]; congr 1; omega
    · rw [Int.min_eq_right h1, List.take_of_length_le, List.take_of_length_le]
      · rw [List.length_drop, hlen.out]; omega
      · rw [List.length_drop, hlen.out]; omega
  replace hr := hid_mk hr
  clear hC hq hc2 hr' hB hi0 hz0 hz1 hz2 hln
  rw [logV_eq]
  go_enter Tryz.func129, Tryz.ntmps129
  go_wp2_with fail
  rw [← logV_eq]
  refine (Right_any l _ _ _ _ hm (h.to (by go_grown))).mono ?_
  rw [hr.out]
  rintro e w1 ⟨rfl, hb⟩
  obtain ⟨q1, z1, c1, f1⟩ := after (w := w) hb (by go_grown)
  simp only [World.size_alloc] at z1
  have z2 : w.heap.size + 1 < w1.heap.size := by omega
  have z3 : w.heap.size < w1.heap.size := by omega
  go_wp2_with (first | (go_at_call 127; go_must (refine (CloneR_any C r c2 _ _ (by omega) (by omega) (hT.to (by go_grown))).mono ?_; rintro e w3 ⟨A3, n3, c3, rfl, hR3, h31, h32, hb3⟩)) | go_in)
  go_ret
  rw [hfin.out]
  exact ⟨A3, n3, c3, rfl, hR3, h31, h32, (after (w := w) hb3 (by go_grown)).1⟩
end Go.Proofs.YtncdjmpdbinanaaGreatDoor
namespace Go.Proofs.YtncdjmpdbinanaaGreatDoor
open Go.RowKit

def termAtJ (l : Lg) (at' : Int) : Option Int := if rightJ l then termJ l at' else none
set_option maxRecDepth 100000 in
set_option maxHeartbeats 400000 in
theorem TermAt_any (l : Lg) (at' : Int) (A : Option Addr) (n cap : Nat) (w : World) {B : Nat} (hm : n ≤ 140737488355328) (h : Recs w B A n l.rs) :
    Calls Tryz.prog 84 #[logV l A n cap, .int .i64 at'] w fun e w' => e = .returned (.tuple #[.int .i64 ((termAtJ l at').getD 0), .bool (termAtJ l at').isSome]) ∧ Below w.heap.size w w' := by
  cases hr : rightJ l
  · have hz : Hid (termAtJ l at' = none) := by unfold Hid termAtJ; rw [hr]; rfl
    replace hr := hid_mk hr
    rw [logV_eq]
    go_enter Tryz.func84, Tryz.ntmps84
    go_wp2_with fail
    rw [← logV_eq]
    refine (Right_any l _ _ _ _ hm (h.to (by go_grown))).mono ?_
    rw [hr.out]
    rintro e w1 ⟨rfl, hb⟩
    obtain ⟨q1, z1, c1, f1⟩ := after (w := w) hb (by go_grown)
    go_wp2
    go_ret2
    exact ⟨by rw [hz.out]; rfl, q1⟩
  · have hbd := right_bounds hr
    have hz : Hid (termAtJ l at' = termJ l at') := by unfold Hid termAtJ; rw [hr]; rfl
    replace hr := hid_mk hr
    rw [logV_eq]
    go_enter Tryz.func84, Tryz.ntmps84
    go_wp2_with fail
    rw [← logV_eq]
    refine (Right_any l _ _ _ _ hm (h.to (by go_grown))).mono ?_
    rw [hr.out]
    rintro e w1 ⟨rfl, hb⟩
    obtain ⟨q1, z1, c1, f1⟩ := after (w := w) hb (by go_grown)
    simp only [World.size_alloc] at z1
    go_wp2_with (go_at_call 104; refine (vterm_any l _ A n cap _ hm (h.to (by go_grown)) hbd.1 hbd.2.1).mono ?_; rintro e w3 ⟨rfl, hb3⟩; obtain ⟨q3, z3, c3, f3⟩ := after (w := w) hb3 (by go_grown))
    go_ret2
    exact ⟨by rw [hz.out]; rfl, q3⟩
set_option maxRecDepth 100000 in
theorem law_behind (l : Lg) (at' m : Int) (hr : rightJ l = true) : behindJ l at' m = if at' < l.base then [] else (l.rs.drop (at' - l.base).toNat).take m.toNat := by
  unfold behindJ lastJ
  by_cases g : at' < l.base
  · rw [if_pos g, if_neg (by omega)]
  · rw [if_neg g]
    by_cases g2 : at' ≤ l.base + l.rs.length
    · rw [if_pos ⟨hr, by omega, g2⟩]
    · rw [if_neg (by omega), List.drop_eq_nil_of_le (by omega)]; simp

set_option maxRecDepth 100000 in
theorem okRecs_nonneg : ∀ {rs : List Rec} {t : Int}, 0 ≤ t → okRecs t rs = true → ∀ r ∈ rs, 0 ≤ r.t
  | [], _, _, _ => by simp
  | r :: rs, t, ht, h => by
    unfold okRecs inB at h
    split at h
    · rename_i hc
      simp only [Bool.and_eq_true, decide_eq_true_eq] at hc
      intro x hx
      rcases List.mem_cons.1 hx with rfl | hx
      · omega
      · exact okRecs_nonneg (by omega) h x hx
    · cases h
set_option maxRecDepth 100000 in
theorem termJ_nonneg {l : Lg} (h : rightJ l = true) : ∀ at' v, termJ l at' = some v → 0 ≤ v := by
  intro at' v hv
  have hb := right_bounds h
  have ho : okRecs (max l.bt 1) l.rs = true := by
    unfold rightJ at h
    simp only [Bool.and_eq_true] at h
    exact h.2
  unfold termJ at hv
  split at hv
  · cases hv; omega
  · split at hv
    · rw [Option.map_eq_some_iff] at hv
      obtain ⟨r, hr, rfl⟩ := hv
      exact okRecs_nonneg (by omega) ho r (List.mem_of_getElem? hr)
    · cases hv
set_option maxRecDepth 100000 in
theorem termJ_last {l : Lg} (h : rightJ l = true) : ∃ v, termJ l (lastJ l) = some v ∧ 0 ≤ v := by
  have : ∃ v, termJ l (lastJ l) = some v := by
    unfold termJ lastJ
    by_cases e : l.base + (l.rs.length : Int) = l.base
    · rw [if_pos e]; exact ⟨_, rfl⟩
    · rw [if_neg e, if_pos (by omega), List.getElem?_eq_getElem (by omega)]; exact ⟨_, rfl⟩
  obtain ⟨v, hv⟩ := this
  exact ⟨v, hv, termJ_nonneg h _ _ hv⟩
end Go.Proofs.YtncdjmpdbinanaaGreatDoor
namespace Go.Proofs.YtncdjmpdbinanaaGreatDoor
open Go.RowKit

def RetLog (B : Nat) (w : World) (l : Lg) (e : Ending) (w' : World) : Prop :=
  ∃ A n cap, e = .returned (logV l A n cap) ∧ Recs w' B A n l.rs ∧ n ≤ cap ∧ cap ≤ maxLen ∧ Below w.heap.size w w'
def zeroL : Lg := ⟨0, 0, []⟩
def compactJ (l : Lg) (to : Int) : Lg × Int :=
  if rightJ l then match termJ l to with
    | none => (zeroL, 150)
    | some t => (⟨to, t, l.rs.drop (to - l.base).toNat⟩, 0)
  else (zeroL, 1)

set_option maxRecDepth 100000 in
theorem termJ_range {l : Lg} {at' t : Int} (h : termJ l at' = some t) : l.base ≤ at' ∧ at' ≤ l.base + l.rs.length := by
  unfold termJ lastJ at h
  split at h
  · omega
  · split at h
    · omega
    · cases h

set_option maxRecDepth 100000 in
set_option maxHeartbeats 400000 in
theorem own_any (l : Lg) (A : Option Addr) (n cap : Nat) (w : World) {B : Nat} (hB : B ≤ w.heap.size) (hm : n ≤ 4398046511104) (hcap : n ≤ cap) (h : Recs w B A n l.rs) :
    Calls Tryz.prog 119 #[logV l A n cap] w (RetLog B w l) := by
  have hX := hid_mk ((Blk.new w 24 #[.int .i64 l.base, .int .i64 l.bt, .slice A n cap]).alloc (.cells #[.int .i64 0, .int .i64 0, .slice none 0 0] 24))
  have hY := hid_mk (Blk.new (w.alloc (.cells #[.int .i64 l.base, .int .i64 l.bt, .slice A n cap] 24)) 24 #[.int .i64 0, .int .i64 0, .slice none 0 0])
  rw [logV_eq]
  go_enter Tryz.func119, Tryz.ntmps119
  go_wp2_with fail
  refine (CloneR_any A n cap _ _ hm hcap (h.to (by go_grown))).mono ?_
  rintro e w3 ⟨A3, n3, c3, rfl, hR3, h31, h32, hb⟩
  have q3 := (after (w := w) hb (by go_grown)).1
  replace hX := hid_mk (hX.out.keep hb)
  replace hY := hid_mk (hY.out.keep hb)
  obtain ⟨hgx, x0, x1, x2, f0, f1, f2⟩ := blk3f hX.out
  obtain ⟨hg, y0, y1, y2, z0, z1, z2⟩ := blk3f hY.out
  rw [World.size_alloc] at hg y0 y1 y2 z0 z1 z2
  clear hb
  go_wp2
  refine bodyPost_ret (v := .agg #[.int .i64 l.base, .int .i64 l.bt, .slice A3 n3 c3]) (by simp [results, Tryz.results119, go_sem, y0, y1, y2]) rfl ?_
  have hY2 := hY.out
  rw [World.size_alloc] at hY2
  have hY3 : Blk (w3.setCell ⟨w.heap.size, 2, none⟩ (.slice A3 n3 c3)) (w.heap.size + 1) 24 _ := hY2.far (p := ⟨w.heap.size, 2, none⟩) (by simp) _
  have hR4 : Recs (w3.setCell ⟨w.heap.size, 2, none⟩ (.slice A3 n3 c3)) B A3 n3 l.rs := Reads.far hR3 hX.out hB (by decide) 2 _
  exact ⟨A3, n3, c3, rfl, set3_reads hY3 _ _ _ (by omega) (by decide) hR4, h31, h32, set3_below _ _ _ (q3.setCell (p := ⟨w.heap.size, 2, none⟩) (Nat.le_refl _) _) (by simp)⟩
def adoptJ (l : Lg) (at' term : Int) : Lg :=
  if rightJ l && rightJ ⟨at', term, []⟩ then
    if at' ≤ l.base then l
    else match termJ l at' with
      | some t => if t = term then (compactJ l at').1 else ⟨at', term, []⟩
      | none => ⟨at', term, []⟩
  else zeroL
end Go.Proofs.YtncdjmpdbinanaaGreatDoor
namespace Go.Proofs.YtncdjmpdbinanaaGreatDoor
open Go.RowKit

set_option maxRecDepth 100000 in
theorem logV_mk (x y : Int) (rs : List Rec) (A : Option Addr) (n c : Nat) : Value.agg #[.int .i64 x, .int .i64 y, .slice A n c] = logV ⟨x, y, rs⟩ A n c := rfl
end Go.Proofs.YtncdjmpdbinanaaGreatDoor
namespace Go.Proofs.YtncdjmpdbinanaaGreatDoor
open Go.RowKit

/-- a row of the call's own is handed back -/
def RetOwn (w : World) (e : TypeId) (n : Nat) (xs : List Value) (en : Ending) (w' : World) : Prop :=
  ∃ A c, en = .returned (.slice A n c) ∧ w'.ownsRow w.heap.size e 3 (.slice A n c) n xs ∧ n ≤ c ∧ Below w.heap.size w w'
set_option maxRecDepth 100000 in
theorem CloneR_own (A : Option Addr) (n cap : Nat) (rs : List Rec) (w : World) {B : Nat} (hm : n ≤ 4398046511104) (h : Recs w B A n rs) :
    Calls Tryz.prog 127 #[.slice A n cap] w (RetOwn w 51 n (cellsOf rs)) := by
  have hq := fun (A : Option Addr) (w : World) => Lib.run_eql_slice_nil (P := Tryz.prog) w 22 51 A n cap 0 0 Tryz.underlying22
  rcases A with _ | ad
  · have hn : n = 0 := by
      rcases Nat.eq_zero_or_pos n with h0 | h0
      · exact h0
      · obtain ⟨_, _, e, _⟩ := h.2 h0; cases e
    subst hn
    have hrs : rs = [] := List.eq_nil_of_length_eq_zero h.len
    replace hq := hq none
    go_enter Tryz.func127, Tryz.ntmps127
    go_wp2
    go_ret
    exact ⟨none, 0, rfl, by rw [hrs]; exact World.ownsRow_nil _ _ _ _, Nat.le_refl _, Below.refl _ _⟩
  · obtain ⟨i0, hi0, hz0, hz1, hz2⟩ := info_parts recInfo
    replace hq := hq (some ad)
    have hown := World.ownsRow_lit (base := w.heap.size) (e := 51) (size := 3) w #[] 0 (Nat.le_refl _) (by unfold maxLen; omega) (by simp)
    have hI : Reads (w.alloc (.cells #[] 51)) B 51 3 (some ad) n (cellsOf rs) := Reads.to h ((Below.refl _ w).alloc (Nat.le_refl _) _)
    go_enter Tryz.func127, Tryz.ntmps127
    go_wp2_with (at_builtin; refine wpList_append_any _ rfl (.tmp 5) (.tmp 6) _ rfl w.heap.size 51 i0 _ 3 32 Tryz.underlying22 hi0 hz0 hz1 hz2 rfl (by omega) _ 0 [] rfl hown B (some ad) n cap (cellsOf rs) rfl hI (rec_one rs) (by simp only [maxLen]; omega) (by omega) (by simp) ?_; intro v1 w1 hown1 hg1 hat1)
    go_ret
    simp only [Nat.zero_add, List.nil_append] at hown1
    obtain ⟨A', c', rfl, hc1, _⟩ := own_slice hown1
    refine ⟨A', c', rfl, hown1, hc1, ?_⟩
    have hb : Below w.heap.size w (w.alloc (.cells #[] 51)) := (Below.refl _ w).alloc (Nat.le_refl _) _
    exact hb.grown hg1 (by simp) (fun k hk => by cases hk; exact Nat.le_refl _)
set_option maxRecDepth 100000 in
theorem prInfo : (Tryz.prog.info? 53).map (fun i => (i.zero, i.size, i.bytes)) = some (some (.agg #[.int .i64 0, .int .i64 0, .int .i64 0]), 3, 24) := by kernel_rfl
theorem pr_one (rs : List Pr) : ∀ u ∈ prsL rs, u.oneCell' = true := by
  intro u hu
  unfold prsL prCells at hu
  simp only [List.mem_flatMap, List.mem_cons, List.mem_nil_iff, or_false] at hu
  obtain ⟨r, _, rfl | rfl | rfl⟩ := hu <;> rfl
set_option maxRecDepth 100000 in
theorem CloneP_own (A : Option Addr) (n cap : Nat) (rs : List Pr) (w : World) {B : Nat} (hm : n ≤ 4398046511104) (h : Prs w B A n rs) :
    Calls Tryz.prog 95 #[.slice A n cap] w (RetOwn w 53 n (prsL rs)) := by
  have hq := fun (A : Option Addr) (w : World) => Lib.run_eql_slice_nil (P := Tryz.prog) w 28 53 A n cap 0 0 Tryz.underlying28
  rcases A with _ | ad
  · have hn : n = 0 := by
      rcases Nat.eq_zero_or_pos n with h0 | h0
      · exact h0
      · obtain ⟨_, _, e, _⟩ := h.2 h0; cases e
    subst hn
    have hrs : rs = [] := List.eq_nil_of_length_eq_zero h.len
    replace hq := hq none
    go_enter Tryz.func95, Tryz.ntmps95
    go_wp2
    go_ret
    exact ⟨none, 0, rfl, by rw [hrs]; exact World.ownsRow_nil _ _ _ _, Nat.le_refl _, Below.refl _ _⟩
  · obtain ⟨i0, hi0, hz0, hz1, hz2⟩ := info_parts prInfo
    replace hq := hq (some ad)
    have hown := World.ownsRow_lit (base := w.heap.size) (e := 53) (size := 3) w #[] 0 (Nat.le_refl _) (by unfold maxLen; omega) (by simp)
    have hI : Reads (w.alloc (.cells #[] 53)) B 53 3 (some ad) n (prsL rs) := Reads.to h ((Below.refl _ w).alloc (Nat.le_refl _) _)
    go_enter Tryz.func95, Tryz.ntmps95
    go_wp2_with (at_builtin; refine wpList_append_any _ rfl (.tmp 5) (.tmp 6) _ rfl w.heap.size 53 i0 _ 3 24 Tryz.underlying28 hi0 hz0 hz1 hz2 rfl (by omega) _ 0 [] rfl hown B (some ad) n cap (prsL rs) rfl hI (pr_one rs) (by simp only [maxLen]; omega) (by omega) (by simp) ?_; intro v1 w1 hown1 hg1 hat1)
    go_ret
    simp only [Nat.zero_add, List.nil_append] at hown1
    obtain ⟨A', c', rfl, hc1, _⟩ := own_slice hown1
    refine ⟨A', c', rfl, hown1, hc1, ?_⟩
    have hb : Below w.heap.size w (w.alloc (.cells #[] 53)) := (Below.refl _ w).alloc (Nat.le_refl _) _
    exact hb.grown hg1 (by simp) (fun k hk => by cases hk; exact Nat.le_refl _)
end Go.Proofs.YtncdjmpdbinanaaGreatDoor
