/-
  WHAT IS PROVED HERE: what elect.May hands back of a message. Condition: the slices are of at most 2^47 elements.
-/
import Derived.Test.YtncdjmpdbinanaaGreatDoorZGMy1
namespace Go.Proofs.YtncdjmpdbinanaaGreatDoor
open Go.RowKit

set_option maxRecDepth 100000 in
set_option maxHeartbeats 12800000 in
theorem EMay_3 (fr to term : Int) (ok : Bool) (index lterm : Int) (rs : List Rec) (commit : Int) (s : ByteArray) (vs : List Int) (RA : Option Addr) (n Rc : Nat) (VA : Option Addr) (m Vc : Nat) (w : World) {B : Nat} (hrb : n ≤ 140737488355328) (hvb : m ≤ 140737488355328) (hr : Recs w B RA n rs) (hi : Ints w B VA m vs) :
    Calls Tryz.prog 39 #[.agg #[.int .i64 3, .int .i64 fr, .int .i64 to, .int .i64 term, .bool ok, .int .i64 index, .int .i64 lterm, .slice RA n Rc, .int .i64 commit, .string s, .slice VA m Vc]] w fun e w' => e = .returned (.bool (mayM ⟨3, fr, to, term, ok, index, lterm, rs, commit, s, vs⟩)) ∧ Below w.heap.size w w' := by
  obtain ⟨MM, hMM⟩ : ∃ MM : Ms, (⟨3, fr, to, term, ok, index, lterm, rs, commit, s, vs⟩ : Ms) = MM := ⟨_, rfl⟩
  rw [hMM]
  have hlr := hid_mk hr.len
  have hlv := hid_mk hi.len
  replace hMM := hid_mk hMM
  cases ok
  case true =>
    refine calls_of_wpQ Tryz.func39 rfl ?_
    intro Q hQ
    simp only [Tryz.ntmps39, List.size_toArray, List.length_cons, List.length_nil, Nat.reduceAdd, Nat.reduceSub, Array.replicate_succ, Array.replicate_zero, List.push_toArray, List.append_toArray, List.nil_append, List.cons_append]
    go_wp2_with fail
    go_region_held3 (fun w' => w'.cell? ⟨w.heap.size, 5, none⟩ = some (.int .i64 index) ∧ w'.cell? ⟨w.heap.size, 6, none⟩ = some (.int .i64 lterm) ∧ w'.cell? ⟨w.heap.size, 8, none⟩ = some (.int .i64 commit)) (go_keep) (first | fail)
    go_wp2
    refine ends_ret hQ (results_tmp rfl _ _ _) rfl ?_
    exact ⟨ret_bool (by rw [← hMM.out]; simp [mayM, formM, bodyM]), by go_grown⟩
  by_cases zs : s.size = 0
  case neg =>
    have e2 : 0 < s.size := by omega
    have e4 := hid_mk e2
    obtain ⟨s1, s2, s3, s4, s5⟩ := ne_toL e2
    clear zs e2
    refine calls_of_wpQ Tryz.func39 rfl ?_
    intro Q hQ
    simp only [Tryz.ntmps39, List.size_toArray, List.length_cons, List.length_nil, Nat.reduceAdd, Nat.reduceSub, Array.replicate_succ, Array.replicate_zero, List.push_toArray, List.append_toArray, List.nil_append, List.cons_append]
    go_wp2_with fail
    go_region_held3 (fun w' => w'.cell? ⟨w.heap.size, 5, none⟩ = some (.int .i64 index) ∧ w'.cell? ⟨w.heap.size, 6, none⟩ = some (.int .i64 lterm) ∧ w'.cell? ⟨w.heap.size, 8, none⟩ = some (.int .i64 commit)) (go_keep) (first | fail)
    go_wp2
    refine ends_ret hQ (results_tmp rfl _ _ _) rfl ?_
    exact ⟨ret_bool (by rw [← hMM.out]; simp [mayM, formM, bodyM, e4.out]), by go_grown⟩
  obtain rfl := ba_empty zs
  clear zs
  by_cases zm : m = 0
  case neg =>
    have e1 : 0 < m := by omega
    have e2 : 0 < vs.length := by have := hlv.out; omega
    have e3 := hid_mk e2
    clear e2 zm
    refine calls_of_wpQ Tryz.func39 rfl ?_
    intro Q hQ
    simp only [Tryz.ntmps39, List.size_toArray, List.length_cons, List.length_nil, Nat.reduceAdd, Nat.reduceSub, Array.replicate_succ, Array.replicate_zero, List.push_toArray, List.append_toArray, List.nil_append, List.cons_append]
    go_wp2_with fail
    go_region_held3 (fun w' => w'.cell? ⟨w.heap.size, 5, none⟩ = some (.int .i64 index) ∧ w'.cell? ⟨w.heap.size, 6, none⟩ = some (.int .i64 lterm) ∧ w'.cell? ⟨w.heap.size, 8, none⟩ = some (.int .i64 commit)) (go_keep) (first | fail)
    go_wp2
    refine ends_ret hQ (results_tmp rfl _ _ _) rfl ?_
    exact ⟨ret_bool (by rw [← hMM.out]; simp [mayM, formM, bodyM, e3.out]), by go_grown⟩
  subst zm
  obtain rfl : vs = [] := List.eq_nil_of_length_eq_zero hlv.out
  by_cases zn : 20 < n
  · have e2 : ¬ rs.length ≤ 20 := by have := hlr.out; omega
    have e3 := hid_mk e2
    clear e2
    refine calls_of_wpQ Tryz.func39 rfl ?_
    intro Q hQ
    simp only [Tryz.ntmps39, List.size_toArray, List.length_cons, List.length_nil, Nat.reduceAdd, Nat.reduceSub, Array.replicate_succ, Array.replicate_zero, List.push_toArray, List.append_toArray, List.nil_append, List.cons_append]
    go_wp2_with fail
    go_region_held3 (fun w' => w'.cell? ⟨w.heap.size, 5, none⟩ = some (.int .i64 index) ∧ w'.cell? ⟨w.heap.size, 6, none⟩ = some (.int .i64 lterm) ∧ w'.cell? ⟨w.heap.size, 8, none⟩ = some (.int .i64 commit)) (go_keep) (first | fail)
    go_wp2
    refine ends_ret hQ (results_tmp rfl _ _ _) rfl ?_
    exact ⟨ret_bool (by rw [← hMM.out]; simp [mayM, formM, bodyM]; intros; have := e3.out; omega), by go_grown⟩
  have e20 : Hid (rs.length ≤ 20) := (show rs.length ≤ 20 from by have := hlr.out; omega)
  refine calls_of_wpQ Tryz.func39 rfl ?_
  intro Q hQ
  simp only [Tryz.ntmps39, List.size_toArray, List.length_cons, List.length_nil, Nat.reduceAdd, Nat.reduceSub, Array.replicate_succ, Array.replicate_zero, List.push_toArray, List.append_toArray, List.nil_append, List.cons_append]
  go_wp2_with fail
  go_region_held3 (fun w' => w'.cell? ⟨w.heap.size, 5, none⟩ = some (.int .i64 index) ∧ w'.cell? ⟨w.heap.size, 6, none⟩ = some (.int .i64 lterm) ∧ w'.cell? ⟨w.heap.size, 8, none⟩ = some (.int .i64 commit)) (go_keep) (first | fail)
  go_wp2_with fail
  refine (ewithin_any _ _ _ _).mono ?_
  rintro e w' ⟨rfl, rfl⟩
  cases c0 : inB fr 1 9
  · replace c0 := hid_mk c0
    go_wp2
    refine ends_ret hQ (results_tmp rfl _ _ _) rfl ?_
    exact ⟨ret_bool (by rw [← hMM.out]; simp [mayM, c0.out]), by go_grown⟩
  replace c0 := hid_mk c0
  go_wp2_with fail
  refine (ewithin_any _ _ _ _).mono ?_
  rintro e w' ⟨rfl, rfl⟩
  cases c1 : inB to 1 9
  · replace c1 := hid_mk c1
    go_wp2
    refine ends_ret hQ (results_tmp rfl _ _ _) rfl ?_
    exact ⟨ret_bool (by rw [← hMM.out]; simp [mayM, c1.out]), by go_grown⟩
  replace c1 := hid_mk c1
  by_cases cq : fr = to
  · have cq1 : (fr == to) = true := by simpa using cq
    have cq2 := hid_mk cq
    clear cq
    go_wp2
    refine ends_ret hQ (results_tmp rfl _ _ _) rfl ?_
    exact ⟨ret_bool (by rw [← hMM.out]; simp [mayM, cq2.out]), by go_grown⟩
  have cq1 : (fr == to) = false := by simpa using cq
  have cq2 := hid_mk cq1
  clear cq
  go_wp2_with fail
  refine (ewithin_any _ _ _ _).mono ?_
  rintro e w' ⟨rfl, rfl⟩
  cases c3 : inB term 1 1073741824
  · replace c3 := hid_mk c3
    go_wp2
    refine ends_ret hQ (results_tmp rfl _ _ _) rfl ?_
    exact ⟨ret_bool (by rw [← hMM.out]; simp [mayM, c3.out]), by go_grown⟩
  replace c3 := hid_mk c3
  go_wp2_with fail
  refine (ewithin_any _ _ _ _).mono ?_
  rintro e w' ⟨rfl, rfl⟩
  cases c4 : inB index 0 1073741824
  · replace c4 := hid_mk c4
    go_wp2
    refine ends_ret hQ (results_tmp rfl _ _ _) rfl ?_
    exact ⟨ret_bool (by rw [← hMM.out]; simp [mayM, c4.out]), by go_grown⟩
  replace c4 := hid_mk c4
  go_wp2_with fail
  refine (ewithin_any _ _ _ _).mono ?_
  rintro e w' ⟨rfl, rfl⟩
  cases c5 : inB commit 0 1073741824
  · replace c5 := hid_mk c5
    go_wp2
    refine ends_ret hQ (results_tmp rfl _ _ _) rfl ?_
    exact ⟨ret_bool (by rw [← hMM.out]; simp [mayM, c5.out]), by go_grown⟩
  replace c5 := hid_mk c5
  go_wp2_with fail
  refine (ewithin_any _ _ _ _).mono ?_
  rintro e w' ⟨rfl, rfl⟩
  cases c6 : inB lterm 0 term
  · replace c6 := hid_mk c6
    go_wp2
    refine ends_ret hQ (results_tmp rfl _ _ _) rfl ?_
    exact ⟨ret_bool (by rw [← hMM.out]; simp [mayM, c6.out]), by go_grown⟩
  replace c6 := hid_mk c6
  go_wp2_with fail
  obtain ⟨z, hz⟩ : ∃ z, rightJ ⟨index, lterm, rs⟩ = z := ⟨_, rfl⟩
  replace hz := hid_mk hz
  cases z
  case false =>
    refine wp_region_T' (fun w' => w'.cell? ⟨w.heap.size, 3, none⟩ = some (.int .i64 term) ∧ w'.cell? ⟨w.heap.size, 5, none⟩ = some (.int .i64 index) ∧ w'.cell? ⟨w.heap.size, 6, none⟩ = some (.int .i64 lterm) ∧ w'.cell? ⟨w.heap.size, 7, none⟩ = some (.slice RA n Rc)) (fun j => decide (j < 25)) 25 (by kernel_rfl) (by kernel_rfl) (by (refine ⟨?_, ?_, ?_, ?_⟩ <;> go_keep)) (fun hS0 => ?_)
    refine wpAnyT_take (i := 0) rfl (by kernel_rfl) (by kernel_rfl) (by kernel_rfl) rfl (by kernel_rfl) (fun _ _ _ h => h) (by kernel_rfl) (fun w' hS => (by obtain ⟨s3, s5, s6, s7⟩ := hS; go_simp; try with_reducible rfl)) hS0 ?_
    simp only [Act.put]
    refine wpAnyT_take (i := 1) rfl (by kernel_rfl) (by kernel_rfl) (by kernel_rfl) rfl (by kernel_rfl) (fun _ _ _ h => h) (by kernel_rfl) (fun w' hS => (by obtain ⟨s3, s5, s6, s7⟩ := hS; go_simp; try with_reducible rfl)) hS0 ?_
    simp only [Act.put]
    refine wpAnyT_take (i := 2) rfl (by kernel_rfl) (by kernel_rfl) (by kernel_rfl) rfl (by kernel_rfl) (fun _ _ _ h => h) (by kernel_rfl) (fun w' hS => (by obtain ⟨s3, s5, s6, s7⟩ := hS; go_simp; try with_reducible rfl)) hS0 ?_
    simp only [Act.put]
    refine wpAnyT_take (i := 3) rfl (by kernel_rfl) (by kernel_rfl) (by kernel_rfl) rfl (by kernel_rfl) (fun _ _ _ h => h) (by kernel_rfl) (fun w' hS => (by obtain ⟨s3, s5, s6, s7⟩ := hS; go_simp; try with_reducible rfl)) hS0 ?_
    simp only [Act.put]
    refine wpAnyT_take (i := 4) rfl (by kernel_rfl) (by kernel_rfl) (by kernel_rfl) rfl (by kernel_rfl) (fun _ _ _ h => h) (by kernel_rfl) (fun w' hS => (by obtain ⟨s3, s5, s6, s7⟩ := hS; go_simp; try with_reducible rfl)) hS0 ?_
    simp only [Act.put]
    refine wpAnyT_take (i := 5) rfl (by kernel_rfl) (by kernel_rfl) (by kernel_rfl) rfl (by kernel_rfl) (fun _ _ _ h => h) (by kernel_rfl) (fun w' hS => (by obtain ⟨s3, s5, s6, s7⟩ := hS; go_simp; try with_reducible rfl)) hS0 ?_
    simp only [Act.put]
    refine wpAnyT_take (i := 6) rfl (by kernel_rfl) (by kernel_rfl) (by kernel_rfl) rfl (by kernel_rfl) (fun _ _ _ h => h) (by kernel_rfl) (fun w' hS => (by obtain ⟨s3, s5, s6, s7⟩ := hS; go_simp; try with_reducible rfl)) hS0 ?_
    simp only [Act.put]
    refine wpAnyT_one (i := 7) (by kernel_rfl) rfl (fun K hK => ?_)
    go_simp
    refine (Right_any ⟨index, lterm, _⟩ RA n Rc _ (B := B) (by omega) (hr.to (by go_grown))).mono ?_
    rw [hz.out]
    rintro e w2 ⟨rfl, hb1⟩
    have q2 := (after (w := w) hb1 (by go_grown)).1
    have x3 := ((bcell hb1).1 w.heap.size 3 (by simp; try omega)).trans (show _ = some (Value.int .i64 term) by simp)
    have x5 := ((bcell hb1).1 w.heap.size 5 (by simp; try omega)).trans (show _ = some (Value.int .i64 index) by simp)
    have x6 := ((bcell hb1).1 w.heap.size 6 (by simp; try omega)).trans (show _ = some (Value.int .i64 lterm) by simp)
    have x7 := ((bcell hb1).1 w.heap.size 7 (by simp; try omega)).trans (show _ = some (Value.slice RA n Rc) by simp)
    refine hK.out _ _ (fun _ => ⟨x3, x5, x6, x7⟩) ?_
    clear hK K
    try simp only [Act.put]
    refine wpAnyT_take (i := 8) rfl (by kernel_rfl) (by kernel_rfl) (by kernel_rfl) rfl (by kernel_rfl) (fun _ _ _ h => h) (by kernel_rfl) (fun w' hS => (by obtain ⟨s3, s5, s6, s7⟩ := hS; go_simp; try with_reducible rfl)) ⟨x3, x5, x6, x7⟩ ?_
    simp only [Act.put]
    refine wpAnyT_skip (i := 9) rfl (by kernel_rfl) (by kernel_rfl) (by kernel_rfl) rfl (by kernel_rfl) (fun _ _ _ h => h) (by kernel_rfl) ⟨x3, x5, x6, x7⟩ ?_
    simp only [Act.put]
    refine wpAnyT_skip (i := 10) rfl (by kernel_rfl) (by kernel_rfl) (by kernel_rfl) rfl (by kernel_rfl) (fun _ _ _ h => h) (by kernel_rfl) ⟨x3, x5, x6, x7⟩ ?_
    simp only [Act.put]
    refine wpAnyT_skip (i := 11) rfl (by kernel_rfl) (by kernel_rfl) (by kernel_rfl) rfl (by kernel_rfl) (fun _ _ _ h => h) (by kernel_rfl) ⟨x3, x5, x6, x7⟩ ?_
    simp only [Act.put]
    refine wpAnyT_skip (i := 12) rfl (by kernel_rfl) (by kernel_rfl) (by kernel_rfl) rfl (by kernel_rfl) (fun _ _ _ h => h) (by kernel_rfl) ⟨x3, x5, x6, x7⟩ ?_
    simp only [Act.put]
    refine wpAnyT_skip (i := 13) rfl (by kernel_rfl) (by kernel_rfl) (by kernel_rfl) rfl (by kernel_rfl) (fun _ _ _ h => h) (by kernel_rfl) ⟨x3, x5, x6, x7⟩ ?_
    simp only [Act.put]
    refine wpAnyT_skip (i := 14) rfl (by kernel_rfl) (by kernel_rfl) (by kernel_rfl) rfl (by kernel_rfl) (fun _ _ _ h => h) (by kernel_rfl) ⟨x3, x5, x6, x7⟩ ?_
    simp only [Act.put]
    refine wpAnyT_skip (i := 15) rfl (by kernel_rfl) (by kernel_rfl) (by kernel_rfl) rfl (by kernel_rfl) (fun _ _ _ h => h) (by kernel_rfl) ⟨x3, x5, x6, x7⟩ ?_
    simp only [Act.put]
    refine wpAnyT_skip (i := 16) rfl (by kernel_rfl) (by kernel_rfl) (by kernel_rfl) rfl (by kernel_rfl) (fun _ _ _ h => h) (by kernel_rfl) ⟨x3, x5, x6, x7⟩ ?_
    simp only [Act.put]
    refine wpAnyT_skip (i := 17) rfl (by kernel_rfl) (by kernel_rfl) (by kernel_rfl) rfl (by kernel_rfl) (fun _ _ _ h => h) (by kernel_rfl) ⟨x3, x5, x6, x7⟩ ?_
    simp only [Act.put]
    refine wpAnyT_skip (i := 18) rfl (by kernel_rfl) (by kernel_rfl) (by kernel_rfl) rfl (by kernel_rfl) (fun _ _ _ h => h) (by kernel_rfl) ⟨x3, x5, x6, x7⟩ ?_
    simp only [Act.put]
    refine wpAnyT_skip (i := 19) rfl (by kernel_rfl) (by kernel_rfl) (by kernel_rfl) rfl (by kernel_rfl) (fun _ _ _ h => h) (by kernel_rfl) ⟨x3, x5, x6, x7⟩ ?_
    simp only [Act.put]
    refine wpAnyT_skip (i := 20) rfl (by kernel_rfl) (by kernel_rfl) (by kernel_rfl) rfl (by kernel_rfl) (fun _ _ _ h => h) (by kernel_rfl) ⟨x3, x5, x6, x7⟩ ?_
    simp only [Act.put]
    refine wpAnyT_skip (i := 21) rfl (by kernel_rfl) (by kernel_rfl) (by kernel_rfl) rfl (by kernel_rfl) (fun _ _ _ h => h) (by kernel_rfl) ⟨x3, x5, x6, x7⟩ ?_
    simp only [Act.put]
    refine wpAnyT_skip (i := 22) rfl (by kernel_rfl) (by kernel_rfl) (by kernel_rfl) rfl (by kernel_rfl) (fun _ _ _ h => h) (by kernel_rfl) ⟨x3, x5, x6, x7⟩ ?_
    simp only [Act.put]
    refine wpAnyT_one (i := 23) (by kernel_rfl) rfl (fun K hK => ?_)
    go_simp
    refine hK.out _ _ (fun _ => ⟨x3, x5, x6, x7⟩) ?_
    clear hK K
    try simp only [Act.put]
    refine wpAnyT_one (i := 24) (by kernel_rfl) rfl (fun K hK => ?_)
    go_simp
    refine hK.out _ _ (fun _ => ⟨x3, x5, x6, x7⟩) ?_
    clear hK K
    try simp only [Act.put]
    refine wpAnyT_done (by kernel_rfl) ?_ _
    go_wp2
    refine ends_ret hQ (results_tmp rfl _ _ _) rfl ?_
    exact ⟨ret_bool (by rw [← hMM.out]; simp [mayM, bodyM, hz.out]), q2⟩
  case true =>
    rcases Nat.eq_zero_or_pos n with hn0 | hn0
    · subst hn0
      obtain rfl : rs = [] := List.eq_nil_of_length_eq_zero hlr.out
      refine wp_region_T' (fun w' => w'.cell? ⟨w.heap.size, 3, none⟩ = some (.int .i64 term) ∧ w'.cell? ⟨w.heap.size, 5, none⟩ = some (.int .i64 index) ∧ w'.cell? ⟨w.heap.size, 6, none⟩ = some (.int .i64 lterm) ∧ w'.cell? ⟨w.heap.size, 7, none⟩ = some (.slice RA 0 Rc)) (fun j => decide (j < 25)) 25 (by kernel_rfl) (by kernel_rfl) (by (refine ⟨?_, ?_, ?_, ?_⟩ <;> go_keep)) (fun hS0 => ?_)
      refine wpAnyT_take (i := 0) rfl (by kernel_rfl) (by kernel_rfl) (by kernel_rfl) rfl (by kernel_rfl) (fun _ _ _ h => h) (by kernel_rfl) (fun w' hS => (by obtain ⟨s3, s5, s6, s7⟩ := hS; go_simp; try with_reducible rfl)) hS0 ?_
      simp only [Act.put]
      refine wpAnyT_take (i := 1) rfl (by kernel_rfl) (by kernel_rfl) (by kernel_rfl) rfl (by kernel_rfl) (fun _ _ _ h => h) (by kernel_rfl) (fun w' hS => (by obtain ⟨s3, s5, s6, s7⟩ := hS; go_simp; try with_reducible rfl)) hS0 ?_
      simp only [Act.put]
      refine wpAnyT_take (i := 2) rfl (by kernel_rfl) (by kernel_rfl) (by kernel_rfl) rfl (by kernel_rfl) (fun _ _ _ h => h) (by kernel_rfl) (fun w' hS => (by obtain ⟨s3, s5, s6, s7⟩ := hS; go_simp; try with_reducible rfl)) hS0 ?_
      simp only [Act.put]
      refine wpAnyT_take (i := 3) rfl (by kernel_rfl) (by kernel_rfl) (by kernel_rfl) rfl (by kernel_rfl) (fun _ _ _ h => h) (by kernel_rfl) (fun w' hS => (by obtain ⟨s3, s5, s6, s7⟩ := hS; go_simp; try with_reducible rfl)) hS0 ?_
      simp only [Act.put]
      refine wpAnyT_take (i := 4) rfl (by kernel_rfl) (by kernel_rfl) (by kernel_rfl) rfl (by kernel_rfl) (fun _ _ _ h => h) (by kernel_rfl) (fun w' hS => (by obtain ⟨s3, s5, s6, s7⟩ := hS; go_simp; try with_reducible rfl)) hS0 ?_
      simp only [Act.put]
      refine wpAnyT_take (i := 5) rfl (by kernel_rfl) (by kernel_rfl) (by kernel_rfl) rfl (by kernel_rfl) (fun _ _ _ h => h) (by kernel_rfl) (fun w' hS => (by obtain ⟨s3, s5, s6, s7⟩ := hS; go_simp; try with_reducible rfl)) hS0 ?_
      simp only [Act.put]
      refine wpAnyT_take (i := 6) rfl (by kernel_rfl) (by kernel_rfl) (by kernel_rfl) rfl (by kernel_rfl) (fun _ _ _ h => h) (by kernel_rfl) (fun w' hS => (by obtain ⟨s3, s5, s6, s7⟩ := hS; go_simp; try with_reducible rfl)) hS0 ?_
      simp only [Act.put]
      refine wpAnyT_one (i := 7) (by kernel_rfl) rfl (fun K hK => ?_)
      go_simp
      refine (Right_any ⟨index, lterm, _⟩ RA 0 Rc _ (B := B) (by omega) (hr.to (by go_grown))).mono ?_
      rw [hz.out]
      rintro e w2 ⟨rfl, hb1⟩
      have q2 := (after (w := w) hb1 (by go_grown)).1
      have x3 := ((bcell hb1).1 w.heap.size 3 (by simp; try omega)).trans (show _ = some (Value.int .i64 term) by simp)
      have x5 := ((bcell hb1).1 w.heap.size 5 (by simp; try omega)).trans (show _ = some (Value.int .i64 index) by simp)
      have x6 := ((bcell hb1).1 w.heap.size 6 (by simp; try omega)).trans (show _ = some (Value.int .i64 lterm) by simp)
      have x7 := ((bcell hb1).1 w.heap.size 7 (by simp; try omega)).trans (show _ = some (Value.slice RA 0 Rc) by simp)
      refine hK.out _ _ (fun _ => ⟨x3, x5, x6, x7⟩) ?_
      clear hK K
      try simp only [Act.put]
      refine wpAnyT_take (i := 8) rfl (by kernel_rfl) (by kernel_rfl) (by kernel_rfl) rfl (by kernel_rfl) (fun _ _ _ h => h) (by kernel_rfl) (fun w' hS => (by obtain ⟨s3, s5, s6, s7⟩ := hS; go_simp; try with_reducible rfl)) ⟨x3, x5, x6, x7⟩ ?_
      simp only [Act.put]
      refine wpAnyT_take (i := 9) rfl (by kernel_rfl) (by kernel_rfl) (by kernel_rfl) rfl (by kernel_rfl) (fun _ _ _ h => h) (by kernel_rfl) (fun w' hS => (by obtain ⟨s3, s5, s6, s7⟩ := hS; go_simp; try with_reducible rfl)) ⟨x3, x5, x6, x7⟩ ?_
      simp only [Act.put]
      refine wpAnyT_take (i := 10) rfl (by kernel_rfl) (by kernel_rfl) (by kernel_rfl) rfl (by kernel_rfl) (fun _ _ _ h => h) (by kernel_rfl) (fun w' hS => (by obtain ⟨s3, s5, s6, s7⟩ := hS; go_simp; try with_reducible rfl)) ⟨x3, x5, x6, x7⟩ ?_
      simp only [Act.put]
      refine wpAnyT_take (i := 11) rfl (by kernel_rfl) (by kernel_rfl) (by kernel_rfl) rfl (by kernel_rfl) (fun _ _ _ h => h) (by kernel_rfl) (fun w' hS => (by obtain ⟨s3, s5, s6, s7⟩ := hS; go_simp; try with_reducible rfl)) ⟨x3, x5, x6, x7⟩ ?_
      simp only [Act.put]
      refine wpAnyT_skip (i := 12) rfl (by kernel_rfl) (by kernel_rfl) (by kernel_rfl) rfl (by kernel_rfl) (fun _ _ _ h => h) (by kernel_rfl) ⟨x3, x5, x6, x7⟩ ?_
      simp only [Act.put]
      refine wpAnyT_skip (i := 13) rfl (by kernel_rfl) (by kernel_rfl) (by kernel_rfl) rfl (by kernel_rfl) (fun _ _ _ h => h) (by kernel_rfl) ⟨x3, x5, x6, x7⟩ ?_
      simp only [Act.put]
      refine wpAnyT_skip (i := 14) rfl (by kernel_rfl) (by kernel_rfl) (by kernel_rfl) rfl (by kernel_rfl) (fun _ _ _ h => h) (by kernel_rfl) ⟨x3, x5, x6, x7⟩ ?_
      simp only [Act.put]
      refine wpAnyT_skip (i := 15) rfl (by kernel_rfl) (by kernel_rfl) (by kernel_rfl) rfl (by kernel_rfl) (fun _ _ _ h => h) (by kernel_rfl) ⟨x3, x5, x6, x7⟩ ?_
      simp only [Act.put]
      refine wpAnyT_skip (i := 16) rfl (by kernel_rfl) (by kernel_rfl) (by kernel_rfl) rfl (by kernel_rfl) (fun _ _ _ h => h) (by kernel_rfl) ⟨x3, x5, x6, x7⟩ ?_
      simp only [Act.put]
      refine wpAnyT_skip (i := 17) rfl (by kernel_rfl) (by kernel_rfl) (by kernel_rfl) rfl (by kernel_rfl) (fun _ _ _ h => h) (by kernel_rfl) ⟨x3, x5, x6, x7⟩ ?_
      simp only [Act.put]
      refine wpAnyT_skip (i := 18) rfl (by kernel_rfl) (by kernel_rfl) (by kernel_rfl) rfl (by kernel_rfl) (fun _ _ _ h => h) (by kernel_rfl) ⟨x3, x5, x6, x7⟩ ?_
      simp only [Act.put]
      refine wpAnyT_skip (i := 19) rfl (by kernel_rfl) (by kernel_rfl) (by kernel_rfl) rfl (by kernel_rfl) (fun _ _ _ h => h) (by kernel_rfl) ⟨x3, x5, x6, x7⟩ ?_
      simp only [Act.put]
      refine wpAnyT_skip (i := 20) rfl (by kernel_rfl) (by kernel_rfl) (by kernel_rfl) rfl (by kernel_rfl) (fun _ _ _ h => h) (by kernel_rfl) ⟨x3, x5, x6, x7⟩ ?_
      simp only [Act.put]
      refine wpAnyT_skip (i := 21) rfl (by kernel_rfl) (by kernel_rfl) (by kernel_rfl) rfl (by kernel_rfl) (fun _ _ _ h => h) (by kernel_rfl) ⟨x3, x5, x6, x7⟩ ?_
      simp only [Act.put]
      refine wpAnyT_take (i := 22) rfl (by kernel_rfl) (by kernel_rfl) (by kernel_rfl) rfl (by kernel_rfl) (fun _ _ _ h => h) (by kernel_rfl) (fun w' hS => (by obtain ⟨s3, s5, s6, s7⟩ := hS; go_simp; try with_reducible rfl)) ⟨x3, x5, x6, x7⟩ ?_
      simp only [Act.put]
      refine wpAnyT_one (i := 23) (by kernel_rfl) rfl (fun K hK => ?_)
      go_simp
      refine hK.out _ _ (fun _ => ⟨x3, x5, x6, x7⟩) ?_
      clear hK K
      try simp only [Act.put]
      refine wpAnyT_one (i := 24) (by kernel_rfl) rfl (fun K hK => ?_)
      go_simp
      refine hK.out _ _ (fun _ => ⟨x3, x5, x6, x7⟩) ?_
      clear hK K
      try simp only [Act.put]
      refine wpAnyT_done (by kernel_rfl) ?_ _
      go_wp2
      refine ends_ret hQ (results_tmp rfl _ _ _) rfl ?_
      exact ⟨ret_bool (by rw [← hMM.out]; simp [mayM, formM, bodyM, c0.out, c1.out, c3.out, c4.out, c5.out, c6.out, cq2.out, hz.out, show inB 3 1 5 = true from rfl] <;> rfl), q2⟩
    · obtain ⟨np, rfl⟩ : ∃ np, n = np + 1 := ⟨n - 1, by omega⟩
      obtain ⟨b, o, r, rfl, hbb, hd, ct, _, _⟩ := hr.at_ (show np < np + 1 by omega)
      have hlast := hid_mk (show rs.getLast? = some r from by
        have hl := hlr.out
        rw [List.getLast?_eq_getElem?, hl, Nat.add_sub_cancel]
        have : (rs.drop np)[0]? = some r := by rw [hd.out]; rfl
        rw [List.getElem?_drop, Nat.add_zero] at this
        exact this)
      obtain ⟨rt, rk, rd⟩ := r
      dsimp only at ct
      have n1 : IntKind.i64.wrap ((np : Int) + 1 - 1) = (np : Int) := by rw [Int.add_sub_cancel]; exact IntWalk.i64_in _ (by omega)
      have n5 : IntKind.i64.wrap (np : Int) = (np : Int) := IntWalk.i64_in _ (by omega)
      have n2 : (0 : Int) ≤ (np : Int) := by omega
      have n3 : (np : Int) < (np : Int) + 1 := by omega
      have n4 : (((np : Int) + 1) == 0) = false := by simp; omega
      by_cases hle : rt ≤ term
      · have hall := hid_mk (okRecs_all rs (max lterm 1) term (by have := hz.out; unfold rightJ at this; simp only [Bool.and_eq_true] at this; exact this.2) (fun x hx => by rw [hlast.out] at hx; injection hx with hx; rw [← hx]; exact hle))
        refine wp_region_T' (fun w' => w'.cell? ⟨w.heap.size, 3, none⟩ = some (.int .i64 term) ∧ w'.cell? ⟨w.heap.size, 5, none⟩ = some (.int .i64 index) ∧ w'.cell? ⟨w.heap.size, 6, none⟩ = some (.int .i64 lterm) ∧ w'.cell? ⟨w.heap.size, 7, none⟩ = some (.slice (some ⟨b, o, none⟩) (np + 1) Rc) ∧ w'.cell? ⟨b, o + np * 3, none⟩ = some (.int .i64 rt)) (fun j => decide (j < 25)) 25 (by kernel_rfl) (by kernel_rfl) (by (refine ⟨?_, ?_, ?_, ?_, ?_⟩ <;> go_keep)) (fun hS0 => ?_)
        refine wpAnyT_take (i := 0) rfl (by kernel_rfl) (by kernel_rfl) (by kernel_rfl) rfl (by kernel_rfl) (fun _ _ _ h => h) (by kernel_rfl) (fun w' hS => (by obtain ⟨s3, s5, s6, s7, sr⟩ := hS; go_simp; try with_reducible rfl)) hS0 ?_
        simp only [Act.put]
        refine wpAnyT_take (i := 1) rfl (by kernel_rfl) (by kernel_rfl) (by kernel_rfl) rfl (by kernel_rfl) (fun _ _ _ h => h) (by kernel_rfl) (fun w' hS => (by obtain ⟨s3, s5, s6, s7, sr⟩ := hS; go_simp; try with_reducible rfl)) hS0 ?_
        simp only [Act.put]
        refine wpAnyT_take (i := 2) rfl (by kernel_rfl) (by kernel_rfl) (by kernel_rfl) rfl (by kernel_rfl) (fun _ _ _ h => h) (by kernel_rfl) (fun w' hS => (by obtain ⟨s3, s5, s6, s7, sr⟩ := hS; go_simp; try with_reducible rfl)) hS0 ?_
        simp only [Act.put]
        refine wpAnyT_take (i := 3) rfl (by kernel_rfl) (by kernel_rfl) (by kernel_rfl) rfl (by kernel_rfl) (fun _ _ _ h => h) (by kernel_rfl) (fun w' hS => (by obtain ⟨s3, s5, s6, s7, sr⟩ := hS; go_simp; try with_reducible rfl)) hS0 ?_
        simp only [Act.put]
        refine wpAnyT_take (i := 4) rfl (by kernel_rfl) (by kernel_rfl) (by kernel_rfl) rfl (by kernel_rfl) (fun _ _ _ h => h) (by kernel_rfl) (fun w' hS => (by obtain ⟨s3, s5, s6, s7, sr⟩ := hS; go_simp; try with_reducible rfl)) hS0 ?_
        simp only [Act.put]
        refine wpAnyT_take (i := 5) rfl (by kernel_rfl) (by kernel_rfl) (by kernel_rfl) rfl (by kernel_rfl) (fun _ _ _ h => h) (by kernel_rfl) (fun w' hS => (by obtain ⟨s3, s5, s6, s7, sr⟩ := hS; go_simp; try with_reducible rfl)) hS0 ?_
        simp only [Act.put]
        refine wpAnyT_take (i := 6) rfl (by kernel_rfl) (by kernel_rfl) (by kernel_rfl) rfl (by kernel_rfl) (fun _ _ _ h => h) (by kernel_rfl) (fun w' hS => (by obtain ⟨s3, s5, s6, s7, sr⟩ := hS; go_simp; try with_reducible rfl)) hS0 ?_
        simp only [Act.put]
        refine wpAnyT_one (i := 7) (by kernel_rfl) rfl (fun K hK => ?_)
        go_simp
        refine (Right_any ⟨index, lterm, _⟩ (some ⟨b, o, none⟩) (np + 1) Rc _ (B := B) (by omega) (hr.to (by go_grown))).mono ?_
        rw [hz.out]
        rintro e w2 ⟨rfl, hb1⟩
        have q2 := (after (w := w) hb1 (by go_grown)).1
        have x3 := ((bcell hb1).1 w.heap.size 3 (by simp; try omega)).trans (show _ = some (Value.int .i64 term) by simp)
        have x5 := ((bcell hb1).1 w.heap.size 5 (by simp; try omega)).trans (show _ = some (Value.int .i64 index) by simp)
        have x6 := ((bcell hb1).1 w.heap.size 6 (by simp; try omega)).trans (show _ = some (Value.int .i64 lterm) by simp)
        have x7 := ((bcell hb1).1 w.heap.size 7 (by simp; try omega)).trans (show _ = some (Value.slice (some ⟨b, o, none⟩) (np + 1) Rc) by simp)
        have xr := (q2.cell (p := ⟨b, o + np * 3, none⟩) hbb).trans ct
        refine hK.out _ _ (fun _ => ⟨x3, x5, x6, x7, xr⟩) ?_
        clear hK K
        try simp only [Act.put]
        refine wpAnyT_take (i := 8) rfl (by kernel_rfl) (by kernel_rfl) (by kernel_rfl) rfl (by kernel_rfl) (fun _ _ _ h => h) (by kernel_rfl) (fun w' hS => (by obtain ⟨s3, s5, s6, s7, sr⟩ := hS; go_simp; try with_reducible rfl)) ⟨x3, x5, x6, x7, xr⟩ ?_
        simp only [Act.put]
        refine wpAnyT_take (i := 9) rfl (by kernel_rfl) (by kernel_rfl) (by kernel_rfl) rfl (by kernel_rfl) (fun _ _ _ h => h) (by kernel_rfl) (fun w' hS => (by obtain ⟨s3, s5, s6, s7, sr⟩ := hS; go_simp; try with_reducible rfl)) ⟨x3, x5, x6, x7, xr⟩ ?_
        simp only [Act.put]
        refine wpAnyT_take (i := 10) rfl (by kernel_rfl) (by kernel_rfl) (by kernel_rfl) rfl (by kernel_rfl) (fun _ _ _ h => h) (by kernel_rfl) (fun w' hS => (by obtain ⟨s3, s5, s6, s7, sr⟩ := hS; go_simp; try with_reducible rfl)) ⟨x3, x5, x6, x7, xr⟩ ?_
        simp only [Act.put]
        refine wpAnyT_take (i := 11) rfl (by kernel_rfl) (by kernel_rfl) (by kernel_rfl) rfl (by kernel_rfl) (fun _ _ _ h => h) (by kernel_rfl) (fun w' hS => (by obtain ⟨s3, s5, s6, s7, sr⟩ := hS; go_simp; try with_reducible rfl)) ⟨x3, x5, x6, x7, xr⟩ ?_
        simp only [Act.put]
        refine wpAnyT_take (i := 12) rfl (by kernel_rfl) (by kernel_rfl) (by kernel_rfl) rfl (by kernel_rfl) (fun _ _ _ h => h) (by kernel_rfl) (fun w' hS => (by obtain ⟨s3, s5, s6, s7, sr⟩ := hS; go_simp; try with_reducible rfl)) ⟨x3, x5, x6, x7, xr⟩ ?_
        simp only [Act.put]
        refine wpAnyT_take (i := 13) rfl (by kernel_rfl) (by kernel_rfl) (by kernel_rfl) rfl (by kernel_rfl) (fun _ _ _ h => h) (by kernel_rfl) (fun w' hS => (by obtain ⟨s3, s5, s6, s7, sr⟩ := hS; go_simp; try with_reducible rfl)) ⟨x3, x5, x6, x7, xr⟩ ?_
        simp only [Act.put]
        refine wpAnyT_take (i := 14) rfl (by kernel_rfl) (by kernel_rfl) (by kernel_rfl) rfl (by kernel_rfl) (fun _ _ _ h => h) (by kernel_rfl) (fun w' hS => (by obtain ⟨s3, s5, s6, s7, sr⟩ := hS; go_simp; try with_reducible rfl)) ⟨x3, x5, x6, x7, xr⟩ ?_
        simp only [Act.put]
        refine wpAnyT_take (i := 15) rfl (by kernel_rfl) (by kernel_rfl) (by kernel_rfl) rfl (by kernel_rfl) (fun _ _ _ h => h) (by kernel_rfl) (fun w' hS => (by obtain ⟨s3, s5, s6, s7, sr⟩ := hS; go_simp; try with_reducible rfl)) ⟨x3, x5, x6, x7, xr⟩ ?_
        simp only [Act.put]
        refine wpAnyT_take (i := 16) rfl (by kernel_rfl) (by kernel_rfl) (by kernel_rfl) rfl (by kernel_rfl) (fun _ _ _ h => h) (by kernel_rfl) (fun w' hS => (by obtain ⟨s3, s5, s6, s7, sr⟩ := hS; go_simp; try with_reducible rfl)) ⟨x3, x5, x6, x7, xr⟩ ?_
        simp only [Act.put]
        refine wpAnyT_take (i := 17) rfl (by kernel_rfl) (by kernel_rfl) (by kernel_rfl) rfl (by kernel_rfl) (fun _ _ _ h => h) (by kernel_rfl) (fun w' hS => (by obtain ⟨s3, s5, s6, s7, sr⟩ := hS; go_simp; try with_reducible rfl)) ⟨x3, x5, x6, x7, xr⟩ ?_
        simp only [Act.put]
        refine wpAnyT_take (i := 18) rfl (by kernel_rfl) (by kernel_rfl) (by kernel_rfl) rfl (by kernel_rfl) (fun _ _ _ h => h) (by kernel_rfl) (fun w' hS => (by obtain ⟨s3, s5, s6, s7, sr⟩ := hS; go_simp; try with_reducible rfl)) ⟨x3, x5, x6, x7, xr⟩ ?_
        simp only [Act.put]
        refine wpAnyT_take (i := 19) rfl (by kernel_rfl) (by kernel_rfl) (by kernel_rfl) rfl (by kernel_rfl) (fun _ _ _ h => h) (by kernel_rfl) (fun w' hS => (by obtain ⟨s3, s5, s6, s7, sr⟩ := hS; go_simp; try with_reducible rfl)) ⟨x3, x5, x6, x7, xr⟩ ?_
        simp only [Act.put]
        refine wpAnyT_take (i := 20) rfl (by kernel_rfl) (by kernel_rfl) (by kernel_rfl) rfl (by kernel_rfl) (fun _ _ _ h => h) (by kernel_rfl) (fun w' hS => (by obtain ⟨s3, s5, s6, s7, sr⟩ := hS; go_simp; try with_reducible rfl)) ⟨x3, x5, x6, x7, xr⟩ ?_
        simp only [Act.put]
        refine wpAnyT_take (i := 21) rfl (by kernel_rfl) (by kernel_rfl) (by kernel_rfl) rfl (by kernel_rfl) (fun _ _ _ h => h) (by kernel_rfl) (fun w' hS => (by obtain ⟨s3, s5, s6, s7, sr⟩ := hS; go_simp; try with_reducible rfl)) ⟨x3, x5, x6, x7, xr⟩ ?_
        simp only [Act.put]
        refine wpAnyT_take (i := 22) rfl (by kernel_rfl) (by kernel_rfl) (by kernel_rfl) rfl (by kernel_rfl) (fun _ _ _ h => h) (by kernel_rfl) (fun w' hS => (by obtain ⟨s3, s5, s6, s7, sr⟩ := hS; go_simp; try with_reducible rfl)) ⟨x3, x5, x6, x7, xr⟩ ?_
        simp only [Act.put]
        refine wpAnyT_one (i := 23) (by kernel_rfl) rfl (fun K hK => ?_)
        go_simp
        refine hK.out _ _ (fun _ => ⟨x3, x5, x6, x7, xr⟩) ?_
        clear hK K
        try simp only [Act.put]
        refine wpAnyT_one (i := 24) (by kernel_rfl) rfl (fun K hK => ?_)
        go_simp
        refine hK.out _ _ (fun _ => ⟨x3, x5, x6, x7, xr⟩) ?_
        clear hK K
        try simp only [Act.put]
        refine wpAnyT_done (by kernel_rfl) ?_ _
        go_wp2
        refine ends_ret hQ (results_tmp rfl _ _ _) rfl ?_
        exact ⟨ret_bool (by rw [← hMM.out]; simp [mayM, formM, bodyM, c0.out, c1.out, c3.out, c4.out, c5.out, c6.out, cq2.out, hz.out, hall.out, e20.out, show inB 3 1 5 = true from rfl] <;> rfl), q2⟩
      · have hall := hid_mk (all_last (T := term) hlast.out hle)
        refine wp_region_T' (fun w' => w'.cell? ⟨w.heap.size, 3, none⟩ = some (.int .i64 term) ∧ w'.cell? ⟨w.heap.size, 5, none⟩ = some (.int .i64 index) ∧ w'.cell? ⟨w.heap.size, 6, none⟩ = some (.int .i64 lterm) ∧ w'.cell? ⟨w.heap.size, 7, none⟩ = some (.slice (some ⟨b, o, none⟩) (np + 1) Rc) ∧ w'.cell? ⟨b, o + np * 3, none⟩ = some (.int .i64 rt)) (fun j => decide (j < 25)) 25 (by kernel_rfl) (by kernel_rfl) (by (refine ⟨?_, ?_, ?_, ?_, ?_⟩ <;> go_keep)) (fun hS0 => ?_)
        refine wpAnyT_take (i := 0) rfl (by kernel_rfl) (by kernel_rfl) (by kernel_rfl) rfl (by kernel_rfl) (fun _ _ _ h => h) (by kernel_rfl) (fun w' hS => (by obtain ⟨s3, s5, s6, s7, sr⟩ := hS; go_simp; try with_reducible rfl)) hS0 ?_
        simp only [Act.put]
        refine wpAnyT_take (i := 1) rfl (by kernel_rfl) (by kernel_rfl) (by kernel_rfl) rfl (by kernel_rfl) (fun _ _ _ h => h) (by kernel_rfl) (fun w' hS => (by obtain ⟨s3, s5, s6, s7, sr⟩ := hS; go_simp; try with_reducible rfl)) hS0 ?_
        simp only [Act.put]
        refine wpAnyT_take (i := 2) rfl (by kernel_rfl) (by kernel_rfl) (by kernel_rfl) rfl (by kernel_rfl) (fun _ _ _ h => h) (by kernel_rfl) (fun w' hS => (by obtain ⟨s3, s5, s6, s7, sr⟩ := hS; go_simp; try with_reducible rfl)) hS0 ?_
        simp only [Act.put]
        refine wpAnyT_take (i := 3) rfl (by kernel_rfl) (by kernel_rfl) (by kernel_rfl) rfl (by kernel_rfl) (fun _ _ _ h => h) (by kernel_rfl) (fun w' hS => (by obtain ⟨s3, s5, s6, s7, sr⟩ := hS; go_simp; try with_reducible rfl)) hS0 ?_
        simp only [Act.put]
        refine wpAnyT_take (i := 4) rfl (by kernel_rfl) (by kernel_rfl) (by kernel_rfl) rfl (by kernel_rfl) (fun _ _ _ h => h) (by kernel_rfl) (fun w' hS => (by obtain ⟨s3, s5, s6, s7, sr⟩ := hS; go_simp; try with_reducible rfl)) hS0 ?_
        simp only [Act.put]
        refine wpAnyT_take (i := 5) rfl (by kernel_rfl) (by kernel_rfl) (by kernel_rfl) rfl (by kernel_rfl) (fun _ _ _ h => h) (by kernel_rfl) (fun w' hS => (by obtain ⟨s3, s5, s6, s7, sr⟩ := hS; go_simp; try with_reducible rfl)) hS0 ?_
        simp only [Act.put]
        refine wpAnyT_take (i := 6) rfl (by kernel_rfl) (by kernel_rfl) (by kernel_rfl) rfl (by kernel_rfl) (fun _ _ _ h => h) (by kernel_rfl) (fun w' hS => (by obtain ⟨s3, s5, s6, s7, sr⟩ := hS; go_simp; try with_reducible rfl)) hS0 ?_
        simp only [Act.put]
        refine wpAnyT_one (i := 7) (by kernel_rfl) rfl (fun K hK => ?_)
        go_simp
        refine (Right_any ⟨index, lterm, _⟩ (some ⟨b, o, none⟩) (np + 1) Rc _ (B := B) (by omega) (hr.to (by go_grown))).mono ?_
        rw [hz.out]
        rintro e w2 ⟨rfl, hb1⟩
        have q2 := (after (w := w) hb1 (by go_grown)).1
        have x3 := ((bcell hb1).1 w.heap.size 3 (by simp; try omega)).trans (show _ = some (Value.int .i64 term) by simp)
        have x5 := ((bcell hb1).1 w.heap.size 5 (by simp; try omega)).trans (show _ = some (Value.int .i64 index) by simp)
        have x6 := ((bcell hb1).1 w.heap.size 6 (by simp; try omega)).trans (show _ = some (Value.int .i64 lterm) by simp)
        have x7 := ((bcell hb1).1 w.heap.size 7 (by simp; try omega)).trans (show _ = some (Value.slice (some ⟨b, o, none⟩) (np + 1) Rc) by simp)
        have xr := (q2.cell (p := ⟨b, o + np * 3, none⟩) hbb).trans ct
        refine hK.out _ _ (fun _ => ⟨x3, x5, x6, x7, xr⟩) ?_
        clear hK K
        try simp only [Act.put]
        refine wpAnyT_take (i := 8) rfl (by kernel_rfl) (by kernel_rfl) (by kernel_rfl) rfl (by kernel_rfl) (fun _ _ _ h => h) (by kernel_rfl) (fun w' hS => (by obtain ⟨s3, s5, s6, s7, sr⟩ := hS; go_simp; try with_reducible rfl)) ⟨x3, x5, x6, x7, xr⟩ ?_
        simp only [Act.put]
        refine wpAnyT_take (i := 9) rfl (by kernel_rfl) (by kernel_rfl) (by kernel_rfl) rfl (by kernel_rfl) (fun _ _ _ h => h) (by kernel_rfl) (fun w' hS => (by obtain ⟨s3, s5, s6, s7, sr⟩ := hS; go_simp; try with_reducible rfl)) ⟨x3, x5, x6, x7, xr⟩ ?_
        simp only [Act.put]
        refine wpAnyT_take (i := 10) rfl (by kernel_rfl) (by kernel_rfl) (by kernel_rfl) rfl (by kernel_rfl) (fun _ _ _ h => h) (by kernel_rfl) (fun w' hS => (by obtain ⟨s3, s5, s6, s7, sr⟩ := hS; go_simp; try with_reducible rfl)) ⟨x3, x5, x6, x7, xr⟩ ?_
        simp only [Act.put]
        refine wpAnyT_take (i := 11) rfl (by kernel_rfl) (by kernel_rfl) (by kernel_rfl) rfl (by kernel_rfl) (fun _ _ _ h => h) (by kernel_rfl) (fun w' hS => (by obtain ⟨s3, s5, s6, s7, sr⟩ := hS; go_simp; try with_reducible rfl)) ⟨x3, x5, x6, x7, xr⟩ ?_
        simp only [Act.put]
        refine wpAnyT_take (i := 12) rfl (by kernel_rfl) (by kernel_rfl) (by kernel_rfl) rfl (by kernel_rfl) (fun _ _ _ h => h) (by kernel_rfl) (fun w' hS => (by obtain ⟨s3, s5, s6, s7, sr⟩ := hS; go_simp; try with_reducible rfl)) ⟨x3, x5, x6, x7, xr⟩ ?_
        simp only [Act.put]
        refine wpAnyT_take (i := 13) rfl (by kernel_rfl) (by kernel_rfl) (by kernel_rfl) rfl (by kernel_rfl) (fun _ _ _ h => h) (by kernel_rfl) (fun w' hS => (by obtain ⟨s3, s5, s6, s7, sr⟩ := hS; go_simp; try with_reducible rfl)) ⟨x3, x5, x6, x7, xr⟩ ?_
        simp only [Act.put]
        refine wpAnyT_take (i := 14) rfl (by kernel_rfl) (by kernel_rfl) (by kernel_rfl) rfl (by kernel_rfl) (fun _ _ _ h => h) (by kernel_rfl) (fun w' hS => (by obtain ⟨s3, s5, s6, s7, sr⟩ := hS; go_simp; try with_reducible rfl)) ⟨x3, x5, x6, x7, xr⟩ ?_
        simp only [Act.put]
        refine wpAnyT_take (i := 15) rfl (by kernel_rfl) (by kernel_rfl) (by kernel_rfl) rfl (by kernel_rfl) (fun _ _ _ h => h) (by kernel_rfl) (fun w' hS => (by obtain ⟨s3, s5, s6, s7, sr⟩ := hS; go_simp; try with_reducible rfl)) ⟨x3, x5, x6, x7, xr⟩ ?_
        simp only [Act.put]
        refine wpAnyT_take (i := 16) rfl (by kernel_rfl) (by kernel_rfl) (by kernel_rfl) rfl (by kernel_rfl) (fun _ _ _ h => h) (by kernel_rfl) (fun w' hS => (by obtain ⟨s3, s5, s6, s7, sr⟩ := hS; go_simp; try with_reducible rfl)) ⟨x3, x5, x6, x7, xr⟩ ?_
        simp only [Act.put]
        refine wpAnyT_take (i := 17) rfl (by kernel_rfl) (by kernel_rfl) (by kernel_rfl) rfl (by kernel_rfl) (fun _ _ _ h => h) (by kernel_rfl) (fun w' hS => (by obtain ⟨s3, s5, s6, s7, sr⟩ := hS; go_simp; try with_reducible rfl)) ⟨x3, x5, x6, x7, xr⟩ ?_
        simp only [Act.put]
        refine wpAnyT_take (i := 18) rfl (by kernel_rfl) (by kernel_rfl) (by kernel_rfl) rfl (by kernel_rfl) (fun _ _ _ h => h) (by kernel_rfl) (fun w' hS => (by obtain ⟨s3, s5, s6, s7, sr⟩ := hS; go_simp; try with_reducible rfl)) ⟨x3, x5, x6, x7, xr⟩ ?_
        simp only [Act.put]
        refine wpAnyT_take (i := 19) rfl (by kernel_rfl) (by kernel_rfl) (by kernel_rfl) rfl (by kernel_rfl) (fun _ _ _ h => h) (by kernel_rfl) (fun w' hS => (by obtain ⟨s3, s5, s6, s7, sr⟩ := hS; go_simp; try with_reducible rfl)) ⟨x3, x5, x6, x7, xr⟩ ?_
        simp only [Act.put]
        refine wpAnyT_take (i := 20) rfl (by kernel_rfl) (by kernel_rfl) (by kernel_rfl) rfl (by kernel_rfl) (fun _ _ _ h => h) (by kernel_rfl) (fun w' hS => (by obtain ⟨s3, s5, s6, s7, sr⟩ := hS; go_simp; try with_reducible rfl)) ⟨x3, x5, x6, x7, xr⟩ ?_
        simp only [Act.put]
        refine wpAnyT_take (i := 21) rfl (by kernel_rfl) (by kernel_rfl) (by kernel_rfl) rfl (by kernel_rfl) (fun _ _ _ h => h) (by kernel_rfl) (fun w' hS => (by obtain ⟨s3, s5, s6, s7, sr⟩ := hS; go_simp; try with_reducible rfl)) ⟨x3, x5, x6, x7, xr⟩ ?_
        simp only [Act.put]
        refine wpAnyT_take (i := 22) rfl (by kernel_rfl) (by kernel_rfl) (by kernel_rfl) rfl (by kernel_rfl) (fun _ _ _ h => h) (by kernel_rfl) (fun w' hS => (by obtain ⟨s3, s5, s6, s7, sr⟩ := hS; go_simp; try with_reducible rfl)) ⟨x3, x5, x6, x7, xr⟩ ?_
        simp only [Act.put]
        refine wpAnyT_one (i := 23) (by kernel_rfl) rfl (fun K hK => ?_)
        go_simp
        refine hK.out _ _ (fun _ => ⟨x3, x5, x6, x7, xr⟩) ?_
        clear hK K
        try simp only [Act.put]
        refine wpAnyT_one (i := 24) (by kernel_rfl) rfl (fun K hK => ?_)
        go_simp
        refine hK.out _ _ (fun _ => ⟨x3, x5, x6, x7, xr⟩) ?_
        clear hK K
        try simp only [Act.put]
        refine wpAnyT_done (by kernel_rfl) ?_ _
        go_wp2
        refine ends_ret hQ (results_tmp rfl _ _ _) rfl ?_
        exact ⟨ret_bool (by rw [← hMM.out]; simp [mayM, bodyM, hall.out]), q2⟩
end Go.Proofs.YtncdjmpdbinanaaGreatDoor
