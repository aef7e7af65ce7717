/-
  WHAT IS PROVED HERE: what journal.TermAt, journal.Newer and the reference's Newer hand back, and the walk of the law JournalLooks: it returns true and writes nothing that was there. Conditions: the records' slice is of at most 2^42 elements.
-/
import Derived.Test.YthaddhdlmlnclaaJrn2
namespace Go.Proofs.Ythaddhdlmlnclaa
open Go.RowKit

def termAtJ (l : Lg) (at' : Int) : Option Int := if rightJ l then termJ l at' else none
set_option maxHeartbeats 400000 in
theorem TermAt_any (l : Lg) (at' : Int) (A : Option Addr) (n cap : Nat) (w : World) {B : Nat} (hm : n ≤ 140737488355328) (h : Recs w B A n l.rs) :
    Calls Try.prog 10 #[logV l A n cap, .int .i64 at'] w fun e w' => e = .returned (.tuple #[.int .i64 ((termAtJ l at').getD 0), .bool (termAtJ l at').isSome]) ∧ Below w.heap.size w w' := by
  cases hr : rightJ l
  · have hz : Hid (termAtJ l at' = none) := by unfold Hid termAtJ; rw [hr]; rfl
    replace hr := hid_mk hr
    rw [logV_eq]
    go_enter Try.func10, Try.ntmps10
    go_wp2_with fail
    rw [← logV_eq]
    refine (Right_any l _ _ _ _ hm (h.to (by go_grown))).mono ?_
    rw [hr.out]
    rintro e w1 ⟨rfl, hb⟩
    obtain ⟨q1, z1, c1, f1⟩ := after (w := w) hb (by go_grown)
    go_wp2
    go_ret2
    exact ⟨by rw [hz.out]; rfl, q1⟩
  · have hbd := right_bounds hr
    have hz : Hid (termAtJ l at' = termJ l at') := by unfold Hid termAtJ; rw [hr]; rfl
    replace hr := hid_mk hr
    rw [logV_eq]
    go_enter Try.func10, Try.ntmps10
    go_wp2_with fail
    rw [← logV_eq]
    refine (Right_any l _ _ _ _ hm (h.to (by go_grown))).mono ?_
    rw [hr.out]
    rintro e w1 ⟨rfl, hb⟩
    obtain ⟨q1, z1, c1, f1⟩ := after (w := w) hb (by go_grown)
    simp only [World.size_alloc] at z1
    go_wp2_with (go_at_call 28; refine (vterm_any l _ A n cap _ hm (h.to (by go_grown)) hbd.1 hbd.2.1).mono ?_; rintro e w3 ⟨rfl, hb3⟩; obtain ⟨q3, z3, c3, f3⟩ := after (w := w) hb3 (by go_grown))
    go_ret2
    exact ⟨by rw [hz.out]; rfl, q3⟩
def newerJ (l : Lg) (at' term : Int) : Bool :=
  decide ((termJ l (lastJ l)).getD 0 < term) || (term == (termJ l (lastJ l)).getD 0) && decide (lastJ l ≤ at')
set_option maxHeartbeats 400000 in
theorem Newer_any (l : Lg) (at' term : Int) (A : Option Addr) (n cap : Nat) (w : World) {B : Nat} (hm : n ≤ 140737488355328) (h : Recs w B A n l.rs) :
    Calls Try.prog 12 #[logV l A n cap, .int .i64 at', .int .i64 term] w fun e w' => e = .returned (.bool (rightJ l && newerJ l at' term)) ∧ Below w.heap.size w w' := by
  cases hr : rightJ l
  · replace hr := hid_mk hr
    rw [logV_eq]
    go_enter Try.func12, Try.ntmps12
    go_wp2_with fail
    rw [← logV_eq]
    refine (Last_any l _ _ _ _ hm (h.to (by go_grown))).mono ?_
    rw [hr.out]
    rintro e w1 ⟨rfl, hb⟩
    obtain ⟨q1, z1, c1, f1⟩ := after (w := w) hb (by go_grown)
    simp only [World.size_alloc] at z1
    go_wp2_with fail
    rw [← logV_eq]
    refine (Right_any l _ _ _ _ hm (h.to (by go_grown))).mono ?_
    rw [hr.out]
    rintro e w2 ⟨rfl, hb2⟩
    obtain ⟨q2, z2, c2, f2⟩ := after (w := w) hb2 (by go_grown)
    go_wp2
    go_ret
    exact ⟨rfl, q2⟩
  · replace hr := hid_mk hr
    obtain ⟨t, ht⟩ : ∃ t, (termJ l (lastJ l)).getD 0 = t := ⟨_, rfl⟩
    obtain ⟨la, hla⟩ : ∃ la, lastJ l = la := ⟨_, rfl⟩
    have hN : Hid (newerJ l at' term = (decide (t < term) || (term == t) && decide (la ≤ at'))) := by unfold Hid newerJ; rw [ht, hla]
    replace ht := hid_mk ht
    replace hla := hid_mk hla
    have go : ∀ (b : Bool), (decide (t < term) || (term == t) && decide (la ≤ at')) = b → Calls Try.prog 12 #[logV l A n cap, .int .i64 at', .int .i64 term] w fun e w' => e = .returned (.bool b) ∧ Below w.heap.size w w' := by
      intro b hb'
      rw [logV_eq]
      by_cases g1 : t < term
      · obtain rfl : b = true := by simp [← hb', g1]
        clear hb'
        go_enter Try.func12, Try.ntmps12
        go_wp2_with fail
        rw [← logV_eq]
        refine (Last_any l _ _ _ _ hm (h.to (by go_grown))).mono ?_
        rw [hr.out, if_pos rfl, if_pos rfl, ht.out, hla.out]
        rintro e w1 ⟨rfl, hb⟩
        obtain ⟨q1, z1, c1, f1⟩ := after (w := w) hb (by go_grown)
        simp only [World.size_alloc] at z1
        go_wp2_with fail
        rw [← logV_eq]
        refine (Right_any l _ _ _ _ hm (h.to (by go_grown))).mono ?_
        rw [hr.out]
        rintro e w2 ⟨rfl, hb2⟩
        obtain ⟨q2, z2, c2, f2⟩ := after (w := w) hb2 (by go_grown)
        go_wp2
        go_ret
        exact ⟨rfl, q2⟩
      · by_cases g2 : term = t
        · subst g2
          obtain rfl : b = decide (la ≤ at') := by simp [← hb']
          clear hb'
          have g1' : decide (term < term) = false := by simp
          go_enter Try.func12, Try.ntmps12
          go_wp2_with fail
          rw [← logV_eq]
          refine (Last_any l _ _ _ _ hm (h.to (by go_grown))).mono ?_
          rw [hr.out, if_pos rfl, if_pos rfl, ht.out, hla.out]
          rintro e w1 ⟨rfl, hb⟩
          obtain ⟨q1, z1, c1, f1⟩ := after (w := w) hb (by go_grown)
          simp only [World.size_alloc] at z1
          go_wp2_with fail
          rw [← logV_eq]
          refine (Right_any l _ _ _ _ hm (h.to (by go_grown))).mono ?_
          rw [hr.out]
          rintro e w2 ⟨rfl, hb2⟩
          obtain ⟨q2, z2, c2, f2⟩ := after (w := w) hb2 (by go_grown)
          go_wp2
          go_ret
          exact ⟨ret_bool (by simp), q2⟩
        · have g2' : (term == t) = false := by simpa using g2
          obtain rfl : b = false := by simp [← hb', g1, g2]
          replace g2 := hid_mk g2
          clear hb'
          go_enter Try.func12, Try.ntmps12
          go_wp2_with fail
          rw [← logV_eq]
          refine (Last_any l _ _ _ _ hm (h.to (by go_grown))).mono ?_
          rw [hr.out, if_pos rfl, if_pos rfl, ht.out, hla.out]
          rintro e w1 ⟨rfl, hb⟩
          obtain ⟨q1, z1, c1, f1⟩ := after (w := w) hb (by go_grown)
          simp only [World.size_alloc] at z1
          go_wp2_with fail
          rw [← logV_eq]
          refine (Right_any l _ _ _ _ hm (h.to (by go_grown))).mono ?_
          rw [hr.out]
          rintro e w2 ⟨rfl, hb2⟩
          obtain ⟨q2, z2, c2, f2⟩ := after (w := w) hb2 (by go_grown)
          go_wp2
          go_ret
          exact ⟨ret_bool (by simpa using g1), q2⟩
    rw [hN.out]
    exact go _ rfl
set_option maxHeartbeats 800000 in
theorem refNewer_any (l : Lg) (at' term : Int) (A : Option Addr) (n cap : Nat) (w : World) {B : Nat} (hm : n ≤ 140737488355328) (h : Recs w B A n l.rs) (h0 : 0 ≤ l.base) (h1 : l.base ≤ 1073741824) :
    Calls Try.prog 20 #[logV l A n cap, .int .i64 at', .int .i64 term] w fun e w' => e = .returned (.bool (newerJ l at' term)) ∧ Below w.heap.size w w' := by
  have hlen := hid_mk h.len
  obtain ⟨t, ht⟩ : ∃ t, (termJ l (lastJ l)).getD 0 = t := ⟨_, rfl⟩
  have ht2 : (termJ l (lastJ l)).getD (-1) = t := by
    have : (termJ l (lastJ l)).isSome = true := by
      unfold termJ lastJ
      by_cases e : l.base + (l.rs.length : Int) = l.base
      · rw [if_pos e]; rfl
      · rw [if_neg e, if_pos (by omega), List.getElem?_eq_getElem (by omega)]; rfl
    rw [← ht]
    cases hh : termJ l (lastJ l) with
    | none => rw [hh] at this; cases this
    | some v => rfl
  obtain ⟨la, hla⟩ : ∃ la, lastJ l = la := ⟨_, rfl⟩
  have hN : Hid (newerJ l at' term = (decide (t < term) || (term == t) && decide (la ≤ at'))) := by unfold Hid newerJ; rw [ht, hla]
  rw [hla] at ht2
  clear ht
  replace ht2 := hid_mk ht2
  replace hla := hid_mk hla
  rw [logV_eq]
  go_enter Try.func20, Try.ntmps20
  go_wp2
  go_region_held3 (fun w' => w'.cell? ⟨w.heap.size, 0, none⟩ = some (.int .i64 l.base) ∧ w'.cell? ⟨w.heap.size, 1, none⟩ = some (.int .i64 l.bt) ∧ w'.cell? ⟨w.heap.size, 2, none⟩ = some (.slice A n cap)) (go_keep) (first | (go_at_call 17; refine (refLast_any l A n cap _ hm hlen.out h0 h1).mono ?_; rw [hla.out]; rintro e w2 ⟨rfl, hb2⟩; obtain ⟨q2, z2, c2, f2⟩ := after (w := w) hb2 (by go_grown); have z2' : w.heap.size < w2.heap.size := by (simp at z2; omega)) | (go_at_call 16; refine (refTerm_any l _ A n cap _ hm (h.to (by go_grown)) h0 h1).mono ?_; rw [ht2.out]; rintro e w3 ⟨rfl, hb3⟩; obtain ⟨q3, z3, c3, f3⟩ := after (w := w) hb3 (by go_grown)))
  clear c2 c3 f2 f3
  by_cases g1 : t < term
  · go_wp2
    go_ret
    exact ⟨ret_bool (by rw [hN.out]; simp [g1]), q3⟩
  have g1' : decide (t < term) = false := by simpa using g1
  by_cases g2 : term = t
  · subst g2
    go_wp2_with (go_at_call 17; refine (refLast_any l A n cap _ hm hlen.out h0 h1).mono ?_; rw [hla.out]; rintro e w4 ⟨rfl, hb4⟩; obtain ⟨q4, z4, c4, f4⟩ := after (w := w) hb4 (by go_grown))
    go_ret
    exact ⟨ret_bool (by rw [hN.out]; simp), q4⟩
  · have g2' : (term == t) = false := by simpa using g2
    replace g2 := hid_mk g2
    go_wp2
    go_ret
    exact ⟨ret_bool (by rw [hN.out]; simp [g1, g2.out]), q3⟩
theorem alive_any (w : World) : Calls Try.prog 15 #[] w fun e w' => e = .returned (.bool true) ∧ Below w.heap.size w w' := by
  have hR := Right_any ⟨0, 0, []⟩ none 0 0
  rw [show rightJ ⟨0, 0, []⟩ = true from rfl] at hR
  unfold logV at hR
  replace hR := hid_mk hR
  go_enter Try.func15, Try.ntmps15
  go_wp2_with (go_at_call 13; refine (hR.out _ (B := 0) (by omega) Reads.none_).mono ?_; rintro e w1 ⟨rfl, hb⟩)
  go_ret
  exact ⟨rfl, hb⟩
theorem law_behind (l : Lg) (at' m : Int) (hr : rightJ l = true) : behindJ l at' m = if at' < l.base then [] else (l.rs.drop (at' - l.base).toNat).take m.toNat := by
  unfold behindJ lastJ
  by_cases g : at' < l.base
  · rw [if_pos g, if_neg (by omega)]
  · rw [if_neg g]
    by_cases g2 : at' ≤ l.base + l.rs.length
    · rw [if_pos ⟨hr, by omega, g2⟩]
    · rw [if_neg (by omega), List.drop_eq_nil_of_le (by omega)]; simp

theorem okRecs_nonneg : ∀ {rs : List Rec} {t : Int}, 0 ≤ t → okRecs t rs = true → ∀ r ∈ rs, 0 ≤ r.t
  | [], _, _, _ => by simp
  | r :: rs, t, ht, h => by
    unfold okRecs inB at h
    split at h
    · rename_i hc
      simp only [Bool.and_eq_true, decide_eq_true_eq] at hc
      intro x hx
      rcases List.mem_cons.1 hx with rfl | hx
      · omega
      · exact okRecs_nonneg (by omega) h x hx
    · cases h
theorem termJ_nonneg {l : Lg} (h : rightJ l = true) : ∀ at' v, termJ l at' = some v → 0 ≤ v := by
  intro at' v hv
  have hb := right_bounds h
  have ho : okRecs (max l.bt 1) l.rs = true := by
    unfold rightJ at h
    simp only [Bool.and_eq_true] at h
    exact h.2
  unfold termJ at hv
  split at hv
  · cases hv; omega
  · split at hv
    · rw [Option.map_eq_some_iff] at hv
      obtain ⟨r, hr, rfl⟩ := hv
      exact okRecs_nonneg (by omega) ho r (List.mem_of_getElem? hr)
    · cases hv
theorem termJ_last {l : Lg} (h : rightJ l = true) : ∃ v, termJ l (lastJ l) = some v ∧ 0 ≤ v := by
  have : ∃ v, termJ l (lastJ l) = some v := by
    unfold termJ lastJ
    by_cases e : l.base + (l.rs.length : Int) = l.base
    · rw [if_pos e]; exact ⟨_, rfl⟩
    · rw [if_neg e, if_pos (by omega), List.getElem?_eq_getElem (by omega)]; exact ⟨_, rfl⟩
  obtain ⟨v, hv⟩ := this
  exact ⟨v, hv, termJ_nonneg h _ _ hv⟩

set_option maxHeartbeats 3200000 in
theorem LawLooks_any (l : Lg) (A : Option Addr) (n cap : Nat) (at' term most : Int) (w : World) {B : Nat} (hm : n ≤ 4398046511103) (hcap : n ≤ cap) (h : Recs w B A n l.rs) :
    Calls Try.prog 3 #[logV l A n cap, .int .i64 at', .int .i64 term, .int .i64 most] w fun e w' => e = .returned (.bool true) ∧ Below w.heap.size w w' := by
  have hlen := hid_mk h.len
  have hX := hid_mk (Blk.new w 24 #[.int .i64 l.base, .int .i64 l.bt, .slice A n cap])
  cases hr : rightJ l
  · have hz : Hid (termAtJ l at' = none) := by unfold Hid termAtJ; rw [hr]; rfl
    have hbe : Hid (behindJ l at' most = []) := by unfold Hid behindJ; rw [if_neg (by rw [hr]; simp)]
    replace hr := hid_mk hr
    rw [logV_eq]
    go_enter Try.func3, Try.ntmps3
    go_wp2_with fail
    rw [← logV_eq]
    refine (Last_any l _ _ _ _ (by omega) (h.to (by go_grown))).mono ?_
    rw [hr.out]
    rintro e w1 ⟨rfl, hb⟩
    have q1 := (after (w := w) hb (by go_grown)).1
    replace hX := hid_mk (hX.out.keep (after (w := (w.alloc (.cells #[.int .i64 l.base, .int .i64 l.bt, .slice A n cap] 24))) hb (by go_grown)).1)
    obtain ⟨hg, x0, x1, x2⟩ := blk3 hX.out
    have hb_ := hb.size; clear hb
    go_wp2_with fail
    rw [← logV_eq]
    refine (TermAt_any l _ _ _ _ _ (by omega) (h.to (by go_grown))).mono ?_
    rw [hz.out]
    rintro e w2 ⟨rfl, hb⟩
    have q2 := (after (w := w) hb (by go_grown)).1
    replace hX := hid_mk (hX.out.keep (after (w := w1) hb (by go_grown)).1)
    clear hb_ x0 x1 x2 hg
    obtain ⟨hg, x0, x1, x2⟩ := blk3 hX.out
    have hb_ := hb.size; clear hb
    go_wp2_with fail
    rw [← logV_eq]
    refine (Behind_any l _ _ _ _ _ _ (by omega) hcap (h.to (by go_grown))).mono ?_
    rw [hbe.out]
    rintro e w3 ⟨A3, n3, cap3, rfl, hR3, h31, h32, hb⟩
    have q3 := (after (w := w) hb (by go_grown)).1
    replace hX := hid_mk (hX.out.keep (after (w := w2) hb (by go_grown)).1)
    clear hb_ x0 x1 x2 hg
    obtain ⟨hg, x0, x1, x2⟩ := blk3 hX.out
    have hb_ := hb.size; clear hb
    have hn3 : n3 = 0 := by have := hR3.len; simpa using this.symm
    subst hn3
    clear hR3
    go_wp2_with fail
    rw [← logV_eq]
    refine (Newer_any l _ _ _ _ _ _ (by omega) (h.to (by go_grown))).mono ?_
    rw [hr.out, Bool.false_and]
    rintro e w4 ⟨rfl, hb⟩
    have q4 := (after (w := w) hb (by go_grown)).1
    replace hX := hid_mk (hX.out.keep (after (w := w3) hb (by go_grown)).1)
    clear hb_ x0 x1 x2 hg
    obtain ⟨hg, x0, x1, x2⟩ := blk3 hX.out
    have hb_ := hb.size; clear hb
    go_wp2_with fail
    go_region_held3 (fun w' => w'.cell? ⟨w.heap.size, 0, none⟩ = some (.int .i64 l.base) ∧ w'.cell? ⟨w.heap.size, 1, none⟩ = some (.int .i64 l.bt) ∧ w'.cell? ⟨w.heap.size, 2, none⟩ = some (.slice A n cap)) ((first | (refine ⟨?_, ?_, ?_⟩ <;> assumption) | go_keep)) (first | (go_at_call 13; refine (Right_any l A n cap _ (by omega) (h.to (by go_grown))).mono ?_; rw [hr.out]; rintro e w5 ⟨rfl, hb5⟩; have q5 := (after (w := w) hb5 (by go_grown)).1; replace hX := hid_mk (hX.out.keep (after hb5 (by go_grown)).1); clear hb5 x0 x1 x2 hg; obtain ⟨hg, x0, x1, x2⟩ := blk3 hX.out) | (go_at_call 14; refine (refRight_any l A n cap _ (by omega) (h.to (by go_grown))).mono ?_; rw [hr.out]; rintro e w6 ⟨rfl, hb6⟩; have q6 := (after (w := w) hb6 (by go_grown)).1; replace hX := hid_mk (hX.out.keep (after hb6 (by go_grown)).1); clear hb6 x0 x1 x2 hg; obtain ⟨hg, x0, x1, x2⟩ := blk3 hX.out))
    go_wp2_with fail
    try rw [← logV_eq]
    refine (refRight_any l _ _ _ _ (by omega) (h.to (by go_grown))).mono ?_
    rw [hr.out]
    rintro e w7 ⟨rfl, hb⟩
    have q7 := (after (w := w) hb (by go_grown)).1
    replace hX := hid_mk (hX.out.keep (after hb (by go_grown)).1)
    clear x0 x1 x2 hg
    obtain ⟨hg, x0, x1, x2⟩ := blk3 hX.out
    have hb_7 := hb.size; clear hb
    go_wp2_with fail
    refine (alive_any _).mono ?_
    rintro e w8 ⟨rfl, hb⟩
    have q8 := (after (w := w) hb (by go_grown)).1
    go_wp2
    go_ret
    exact ⟨rfl, q8⟩
  · have hbd := right_bounds hr
    have hz : Hid (termAtJ l at' = termJ l at') := by unfold Hid termAtJ; rw [hr]; rfl
    obtain ⟨L, hL⟩ : ∃ L, (if at' < l.base then [] else (l.rs.drop (at' - l.base).toNat).take most.toNat) = L := ⟨_, rfl⟩
    have hLl : L.length ≤ 200 := by
      rw [← hL]
      split
      · simp
      · rw [List.length_take, List.length_drop]; omega
    have hbe : Hid (behindJ l at' most = L) := by unfold Hid; rw [law_behind l at' most hr, hL]
    replace hL := hid_mk hL
    have hnn := hid_mk (termJ_nonneg hr)
    obtain ⟨lt, hlt, hlt0⟩ := termJ_last hr
    replace hlt := hid_mk hlt
    obtain ⟨tv, htv⟩ : ∃ tv, (termJ l at').getD 0 = tv := ⟨_, rfl⟩
    obtain ⟨tb, htb⟩ : ∃ tb, (termJ l at').isSome = tb := ⟨_, rfl⟩
    obtain ⟨tw, htw⟩ : ∃ tw, (termJ l at').getD (-1) = tw := ⟨_, rfl⟩
    have hrel : (tb = true ∧ tw = tv ∧ 0 ≤ tv) ∨ (tb = false ∧ tv = 0 ∧ tw = -1) := by
      rw [← htv, ← htb, ← htw]
      have := hnn.out at'
      cases h1 : termJ l at' with
      | none => right; simp
      | some v => left; simpa using this v h1
    replace htv := hid_mk htv
    replace htb := hid_mk htb
    replace htw := hid_mk htw
    clear hnn
    replace hr := hid_mk hr
    rw [logV_eq]
    go_enter Try.func3, Try.ntmps3
    go_wp2_with fail
    try rw [← logV_eq]
    refine (Last_any l _ _ _ _ (by omega) (h.to (by go_grown))).mono ?_
    rw [hr.out, if_pos rfl, if_pos rfl, hlt.out, Option.getD_some]
    rintro e w1 ⟨rfl, hb⟩
    have q1 := (after (w := w) hb (by go_grown)).1
    replace hX := hid_mk (hX.out.keep (after hb (by go_grown)).1)
    obtain ⟨hg, x0, x1, x2⟩ := blk3 hX.out
    have hb_1 := hb.size; clear hb
    go_wp2_with fail
    try rw [← logV_eq]
    refine (TermAt_any l _ _ _ _ _ (by omega) (h.to (by go_grown))).mono ?_
    rw [hz.out, htv.out, htb.out]
    rintro e w2 ⟨rfl, hb⟩
    have q2 := (after (w := w) hb (by go_grown)).1
    replace hX := hid_mk (hX.out.keep (after hb (by go_grown)).1)
    clear x0 x1 x2 hg
    obtain ⟨hg, x0, x1, x2⟩ := blk3 hX.out
    have hb_2 := hb.size; clear hb
    go_wp2_with fail
    try rw [← logV_eq]
    refine (Behind_any l _ _ _ _ _ _ (by omega) hcap (h.to (by go_grown))).mono ?_
    rw [hbe.out]
    rintro e w3 ⟨A3, n3, cap3, rfl, hR3, h31, h32, hb⟩
    have q3 := (after (w := w) hb (by go_grown)).1
    replace hR3 := hid_mk hR3
    replace hX := hid_mk (hX.out.keep (after hb (by go_grown)).1)
    clear x0 x1 x2 hg
    obtain ⟨hg, x0, x1, x2⟩ := blk3 hX.out
    have hb_3 := hb.size; clear hb
    go_wp2_with fail
    try rw [← logV_eq]
    refine (Newer_any l _ _ _ _ _ _ (by omega) (h.to (by go_grown))).mono ?_
    rw [hr.out, Bool.true_and]
    rintro e w4 ⟨rfl, hb⟩
    have q4 := (after (w := w) hb (by go_grown)).1
    replace hR3 := hid_mk (hR3.out.to (after hb (by go_grown)).1)
    replace hX := hid_mk (hX.out.keep (after hb (by go_grown)).1)
    clear x0 x1 x2 hg
    obtain ⟨hg, x0, x1, x2⟩ := blk3 hX.out
    have hb_4 := hb.size; clear hb
    go_wp2_with fail
    go_region_held3 (fun w' => w'.cell? ⟨w.heap.size, 0, none⟩ = some (.int .i64 l.base) ∧ w'.cell? ⟨w.heap.size, 1, none⟩ = some (.int .i64 l.bt) ∧ w'.cell? ⟨w.heap.size, 2, none⟩ = some (.slice A n cap)) ((first | (refine ⟨?_, ?_, ?_⟩ <;> assumption) | go_keep)) (first | (go_at_call 13; refine (Right_any l A n cap _ (by omega) (h.to (by go_grown))).mono ?_; rw [hr.out]; rintro e w5 ⟨rfl, hb5⟩; have q5 := (after (w := w) hb5 (by go_grown)).1; replace hR3 := hid_mk (hR3.out.to (after hb5 (by go_grown)).1); replace hX := hid_mk (hX.out.keep (after hb5 (by go_grown)).1); clear hb5 x0 x1 x2 hg; obtain ⟨hg, x0, x1, x2⟩ := blk3 hX.out) | (go_at_call 14; refine (refRight_any l A n cap _ (by omega) (h.to (by go_grown))).mono ?_; rw [hr.out]; rintro e w6 ⟨rfl, hb6⟩; have q6 := (after (w := w) hb6 (by go_grown)).1; replace hR3 := hid_mk (hR3.out.to (after hb6 (by go_grown)).1); replace hX := hid_mk (hX.out.keep (after hb6 (by go_grown)).1); clear hb6 x0 x1 x2 hg; obtain ⟨hg, x0, x1, x2⟩ := blk3 hX.out))
    go_wp2_with fail
    try rw [← logV_eq]
    refine (refRight_any l _ _ _ _ (by omega) (h.to (by go_grown))).mono ?_
    rw [hr.out]
    rintro e w7 ⟨rfl, hb⟩
    have q7 := (after (w := w) hb (by go_grown)).1
    replace hR3 := hid_mk (hR3.out.to (after hb (by go_grown)).1)
    replace hX := hid_mk (hX.out.keep (after hb (by go_grown)).1)
    clear x0 x1 x2 hg
    obtain ⟨hg, x0, x1, x2⟩ := blk3 hX.out
    have hb_7 := hb.size; clear hb
    go_wp2_with fail
    try rw [← logV_eq]
    refine (refTerm_any l _ _ _ _ _ (by omega) (h.to (by go_grown)) hbd.1 hbd.2.1).mono ?_
    rw [htw.out]
    rintro e w8 ⟨rfl, hb⟩
    have q8 := (after (w := w) hb (by go_grown)).1
    replace hR3 := hid_mk (hR3.out.to (after hb (by go_grown)).1)
    replace hX := hid_mk (hX.out.keep (after hb (by go_grown)).1)
    clear x0 x1 x2 hg
    obtain ⟨hg, x0, x1, x2⟩ := blk3 hX.out
    have hb_8 := hb.size; clear hb
    rcases hrel with ⟨rfl, rfl, hv0⟩ | ⟨rfl, rfl, rfl⟩
    all_goals
      go_wp2_with fail
      refine (alive_any _).mono ?_
      rintro e w9 ⟨rfl, hb⟩
      have q9 := (after (w := w) hb (by go_grown)).1
      replace hR3 := hid_mk (hR3.out.to (after hb (by go_grown)).1)
      replace hX := hid_mk (hX.out.keep (after hb (by go_grown)).1)
      clear x0 x1 x2 hg
      obtain ⟨hg, x0, x1, x2⟩ := blk3 hX.out
      have hb_9 := hb.size; clear hb
      go_wp2_with fail
      try rw [← logV_eq]
      refine (refLast_any l _ _ _ _ (by omega) hlen.out hbd.1 hbd.2.1).mono ?_
      rintro e w10 ⟨rfl, hb⟩
      have q10 := (after (w := w) hb (by go_grown)).1
      replace hR3 := hid_mk (hR3.out.to (after hb (by go_grown)).1)
      replace hX := hid_mk (hX.out.keep (after hb (by go_grown)).1)
      clear x0 x1 x2 hg
      obtain ⟨hg, x0, x1, x2⟩ := blk3 hX.out
      have hb_10 := hb.size; clear hb
      go_wp2_with fail
      try rw [← logV_eq]
      refine (refTerm_any l _ _ _ _ _ (by omega) (h.to (by go_grown)) hbd.1 hbd.2.1).mono ?_
      rw [hlt.out, Option.getD_some]
      rintro e w11 ⟨rfl, hb⟩
      have q11 := (after (w := w) hb (by go_grown)).1
      replace hR3 := hid_mk (hR3.out.to (after hb (by go_grown)).1)
      replace hX := hid_mk (hX.out.keep (after hb (by go_grown)).1)
      clear x0 x1 x2 hg
      obtain ⟨hg, x0, x1, x2⟩ := blk3 hX.out
      have hb_11 := hb.size; clear hb
      go_wp2_with fail
      try rw [← logV_eq]
      refine (refTerm_any l _ _ _ _ _ (by omega) (h.to (by go_grown)) hbd.1 hbd.2.1).mono ?_
      rw [htw.out]
      rintro e w12 ⟨rfl, hb⟩
      have q12 := (after (w := w) hb (by go_grown)).1
      replace hR3 := hid_mk (hR3.out.to (after hb (by go_grown)).1)
      replace hX := hid_mk (hX.out.keep (after hb (by go_grown)).1)
      clear x0 x1 x2 hg
      obtain ⟨hg, x0, x1, x2⟩ := blk3 hX.out
      have hb_12 := hb.size; clear hb
      go_wp2_with fail
      try rw [← logV_eq]
      refine (refBehind_any l _ _ _ _ _ _ hm (h.to (by go_grown)) hbd.1 hbd.2.1).mono ?_
      rw [hL.out]
      rintro e w13 ⟨A4, n4, cap4, rfl, hR4, h41, h42, hb⟩
      have q13 := (after (w := w) hb (by go_grown)).1
      replace hR3 := hid_mk (hR3.out.to (after hb (by go_grown)).1)
      replace hX := hid_mk (hX.out.keep (after hb (by go_grown)).1)
      clear x0 x1 x2 hg
      obtain ⟨hg, x0, x1, x2⟩ := blk3 hX.out
      have hb_13 := hb.size; clear hb
      have hl3 := hR3.out.len
      have hl4 := hR4.len
      replace hR4 := hid_mk hR4
      subst hl3
      subst hl4
      go_wp2_with fail
      refine (LikeRecords_any A3 _ cap3 _ A4 _ cap4 _ _ (by omega) (by omega) (hR3.out.to (by go_grown)) (hR4.out.to (by go_grown))).mono ?_
      rw [show (decide (L.length = L.length) && likeR L L) = true from by simp; exact (likeR_eq rfl).2 rfl]
      rintro e w14 ⟨rfl, hb⟩
      have q14 := (after (w := w) hb (by go_grown)).1
      replace hX := hid_mk (hX.out.keep (after hb (by go_grown)).1)
      clear x0 x1 x2 hg
      obtain ⟨hg, x0, x1, x2⟩ := blk3 hX.out
      have hb_14 := hb.size; clear hb
      go_wp2_with fail
      try rw [← logV_eq]
      refine (refNewer_any l _ _ _ _ _ _ (by omega) (h.to (by go_grown)) hbd.1 hbd.2.1).mono ?_
      rintro e w15 ⟨rfl, hb⟩
      have q15 := (after (w := w) hb (by go_grown)).1
      go_wp2
      go_ret
      exact ⟨ret_bool (by simp), q15⟩
theorem LawLooks_walk (l0 : Lg) (a0 : Option Addr) (len0 cap0 : Nat) {w : World} (i0 : Recs w w.heap.size a0 len0 l0.rs) (lc0 : len0 ≤ cap0) (hs0 : cap0 * 32 ≤ 140737488351232)
    (a1 : Int) (_lo1 : -9223372036854775808 ≤ a1) (_hi1 : a1 ≤ 9223372036854775807) (a2 : Int) (_lo2 : -9223372036854775808 ≤ a2) (_hi2 : a2 ≤ 9223372036854775807) (a3 : Int) (_lo3 : -9223372036854775808 ≤ a3) (_hi3 : a3 ≤ 9223372036854775807) :
    Calls Try.prog 3 #[logV l0 a0 len0 cap0, .int .i64 a1, .int .i64 a2, .int .i64 a3] w fun e w' => e = .returned (.bool true) ∧ Below w.heap.size w w' :=
  LawLooks_any _ _ _ _ _ _ _ _ (by omega) lc0 i0
end Go.Proofs.Ythaddhdlmlnclaa
