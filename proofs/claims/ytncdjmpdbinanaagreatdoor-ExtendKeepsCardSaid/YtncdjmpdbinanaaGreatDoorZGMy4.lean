/-
  WHAT IS PROVED HERE: what elect.May hands back of a message. Condition: the slices are of at most 2^47 elements.
  WHAT IS PROVED HERE: what elect.May hands back of a message. Condition: the slices are of at most 2^47 elements.
  WHAT IS PROVED HERE: what elect.May hands back of any message. Condition: the slices are of at most 2^47 elements.
-/
import Derived.Test.YtncdjmpdbinanaaGreatDoorZGMy1
import Derived.Test.YtncdjmpdbinanaaGreatDoorZMay3
namespace Go.Proofs.YtncdjmpdbinanaaGreatDoor
open Go.RowKit

set_option maxRecDepth 100000 in
set_option maxHeartbeats 12800000 in
theorem EMay_4 (fr to term : Int) (ok : Bool) (index lterm : Int) (rs : List Rec) (commit : Int) (s : ByteArray) (vs : List Int) (RA : Option Addr) (n Rc : Nat) (VA : Option Addr) (m Vc : Nat) (w : World) {B : Nat} (hrb : n ≤ 140737488355328) (hvb : m ≤ 140737488355328) (hr : Recs w B RA n rs) (hi : Ints w B VA m vs) :
    Calls Tryz.prog 39 #[.agg #[.int .i64 4, .int .i64 fr, .int .i64 to, .int .i64 term, .bool ok, .int .i64 index, .int .i64 lterm, .slice RA n Rc, .int .i64 commit, .string s, .slice VA m Vc]] w fun e w' => e = .returned (.bool (mayM ⟨4, fr, to, term, ok, index, lterm, rs, commit, s, vs⟩)) ∧ Below w.heap.size w w' := by
  obtain ⟨MM, hMM⟩ : ∃ MM : Ms, (⟨4, fr, to, term, ok, index, lterm, rs, commit, s, vs⟩ : Ms) = MM := ⟨_, rfl⟩
  rw [hMM]
  have hlr := hid_mk hr.len
  have hlv := hid_mk hi.len
  replace hMM := hid_mk hMM
  by_cases zlterm : lterm = 0
  case neg =>
    have e1 : ((0 : Int) == lterm) = false := by simp; omega
    have e2 : (lterm == (0 : Int)) = false := by simpa using zlterm
    have e3 := hid_mk zlterm
    clear zlterm
    refine calls_of_wpQ Tryz.func39 rfl ?_
    intro Q hQ
    simp only [Tryz.ntmps39, List.size_toArray, List.length_cons, List.length_nil, Nat.reduceAdd, Nat.reduceSub, Array.replicate_succ, Array.replicate_zero, List.push_toArray, List.append_toArray, List.nil_append, List.cons_append]
    go_wp2_with fail
    go_region_held3 (fun w' => w'.cell? ⟨w.heap.size, 4, none⟩ = some (.bool ok) ∧ w'.cell? ⟨w.heap.size, 5, none⟩ = some (.int .i64 index)) (go_keep) (first | fail)
    go_wp2
    refine ends_ret hQ (results_tmp rfl _ _ _) rfl ?_
    exact ⟨ret_bool (by rw [← hMM.out]; simp [mayM, formM, bodyM, e3.out]), by go_grown⟩
  subst zlterm
  by_cases zcommit : commit = 0
  case neg =>
    have e1 : ((0 : Int) == commit) = false := by simp; omega
    have e2 : (commit == (0 : Int)) = false := by simpa using zcommit
    have e3 := hid_mk zcommit
    clear zcommit
    refine calls_of_wpQ Tryz.func39 rfl ?_
    intro Q hQ
    simp only [Tryz.ntmps39, List.size_toArray, List.length_cons, List.length_nil, Nat.reduceAdd, Nat.reduceSub, Array.replicate_succ, Array.replicate_zero, List.push_toArray, List.append_toArray, List.nil_append, List.cons_append]
    go_wp2_with fail
    go_region_held3 (fun w' => w'.cell? ⟨w.heap.size, 4, none⟩ = some (.bool ok) ∧ w'.cell? ⟨w.heap.size, 5, none⟩ = some (.int .i64 index)) (go_keep) (first | fail)
    go_wp2
    refine ends_ret hQ (results_tmp rfl _ _ _) rfl ?_
    exact ⟨ret_bool (by rw [← hMM.out]; simp [mayM, formM, bodyM, e3.out]), by go_grown⟩
  subst zcommit
  by_cases zs : s.size = 0
  case neg =>
    have e2 : 0 < s.size := by omega
    have e4 := hid_mk e2
    obtain ⟨s1, s2, s3, s4, s5⟩ := ne_toL e2
    clear zs e2
    refine calls_of_wpQ Tryz.func39 rfl ?_
    intro Q hQ
    simp only [Tryz.ntmps39, List.size_toArray, List.length_cons, List.length_nil, Nat.reduceAdd, Nat.reduceSub, Array.replicate_succ, Array.replicate_zero, List.push_toArray, List.append_toArray, List.nil_append, List.cons_append]
    go_wp2_with fail
    go_region_held3 (fun w' => w'.cell? ⟨w.heap.size, 4, none⟩ = some (.bool ok) ∧ w'.cell? ⟨w.heap.size, 5, none⟩ = some (.int .i64 index)) (go_keep) (first | fail)
    go_wp2
    refine ends_ret hQ (results_tmp rfl _ _ _) rfl ?_
    exact ⟨ret_bool (by rw [← hMM.out]; simp [mayM, formM, bodyM, e4.out]), by go_grown⟩
  obtain rfl := ba_empty zs
  clear zs
  by_cases zn : n = 0
  case neg =>
    have e1 : 0 < n := by omega
    have e2 : 0 < rs.length := by have := hlr.out; omega
    have e3 := hid_mk e2
    clear e2 zn
    refine calls_of_wpQ Tryz.func39 rfl ?_
    intro Q hQ
    simp only [Tryz.ntmps39, List.size_toArray, List.length_cons, List.length_nil, Nat.reduceAdd, Nat.reduceSub, Array.replicate_succ, Array.replicate_zero, List.push_toArray, List.append_toArray, List.nil_append, List.cons_append]
    go_wp2_with fail
    go_region_held3 (fun w' => w'.cell? ⟨w.heap.size, 4, none⟩ = some (.bool ok) ∧ w'.cell? ⟨w.heap.size, 5, none⟩ = some (.int .i64 index)) (go_keep) (first | fail)
    go_wp2
    refine ends_ret hQ (results_tmp rfl _ _ _) rfl ?_
    exact ⟨ret_bool (by rw [← hMM.out]; simp [mayM, formM, bodyM, e3.out]), by go_grown⟩
  subst zn
  obtain rfl : rs = [] := List.eq_nil_of_length_eq_zero hlr.out
  by_cases zm : m = 0
  case neg =>
    have e1 : 0 < m := by omega
    have e2 : 0 < vs.length := by have := hlv.out; omega
    have e3 := hid_mk e2
    clear e2 zm
    refine calls_of_wpQ Tryz.func39 rfl ?_
    intro Q hQ
    simp only [Tryz.ntmps39, List.size_toArray, List.length_cons, List.length_nil, Nat.reduceAdd, Nat.reduceSub, Array.replicate_succ, Array.replicate_zero, List.push_toArray, List.append_toArray, List.nil_append, List.cons_append]
    go_wp2_with fail
    go_region_held3 (fun w' => w'.cell? ⟨w.heap.size, 4, none⟩ = some (.bool ok) ∧ w'.cell? ⟨w.heap.size, 5, none⟩ = some (.int .i64 index)) (go_keep) (first | fail)
    go_wp2
    refine ends_ret hQ (results_tmp rfl _ _ _) rfl ?_
    exact ⟨ret_bool (by rw [← hMM.out]; simp [mayM, formM, bodyM, e3.out]), by go_grown⟩
  subst zm
  obtain rfl : vs = [] := List.eq_nil_of_length_eq_zero hlv.out
  refine calls_of_wpQ Tryz.func39 rfl ?_
  intro Q hQ
  simp only [Tryz.ntmps39, List.size_toArray, List.length_cons, List.length_nil, Nat.reduceAdd, Nat.reduceSub, Array.replicate_succ, Array.replicate_zero, List.push_toArray, List.append_toArray, List.nil_append, List.cons_append]
  go_wp2_with fail
  go_region_held3 (fun w' => w'.cell? ⟨w.heap.size, 4, none⟩ = some (.bool ok) ∧ w'.cell? ⟨w.heap.size, 5, none⟩ = some (.int .i64 index)) (go_keep) (first | fail)
  go_wp2_with fail
  refine (ewithin_any _ _ _ _).mono ?_
  rintro e w' ⟨rfl, rfl⟩
  cases c0 : inB fr 1 9
  · replace c0 := hid_mk c0
    go_wp2
    refine ends_ret hQ (results_tmp rfl _ _ _) rfl ?_
    exact ⟨ret_bool (by rw [← hMM.out]; simp [mayM, c0.out]), by go_grown⟩
  replace c0 := hid_mk c0
  go_wp2_with fail
  refine (ewithin_any _ _ _ _).mono ?_
  rintro e w' ⟨rfl, rfl⟩
  cases c1 : inB to 1 9
  · replace c1 := hid_mk c1
    go_wp2
    refine ends_ret hQ (results_tmp rfl _ _ _) rfl ?_
    exact ⟨ret_bool (by rw [← hMM.out]; simp [mayM, c1.out]), by go_grown⟩
  replace c1 := hid_mk c1
  by_cases cq : fr = to
  · have cq1 : (fr == to) = true := by simpa using cq
    have cq2 := hid_mk cq
    clear cq
    go_wp2
    refine ends_ret hQ (results_tmp rfl _ _ _) rfl ?_
    exact ⟨ret_bool (by rw [← hMM.out]; simp [mayM, cq2.out]), by go_grown⟩
  have cq1 : (fr == to) = false := by simpa using cq
  have cq2 := hid_mk cq1
  clear cq
  go_wp2_with fail
  refine (ewithin_any _ _ _ _).mono ?_
  rintro e w' ⟨rfl, rfl⟩
  cases c3 : inB term 1 1073741824
  · replace c3 := hid_mk c3
    go_wp2
    refine ends_ret hQ (results_tmp rfl _ _ _) rfl ?_
    exact ⟨ret_bool (by rw [← hMM.out]; simp [mayM, c3.out]), by go_grown⟩
  replace c3 := hid_mk c3
  go_wp2_with fail
  refine (ewithin_any _ _ _ _).mono ?_
  rintro e w' ⟨rfl, rfl⟩
  cases c4 : inB index 0 1073741824
  · replace c4 := hid_mk c4
    go_wp2
    refine ends_ret hQ (results_tmp rfl _ _ _) rfl ?_
    exact ⟨ret_bool (by rw [← hMM.out]; simp [mayM, c4.out]), by go_grown⟩
  replace c4 := hid_mk c4
  go_wp2_with fail
  refine (ewithin_any _ _ _ _).mono ?_
  rintro e w' ⟨rfl, rfl⟩
  cases c5 : inB 0 0 1073741824
  · replace c5 := hid_mk c5
    go_wp2
    refine ends_ret hQ (results_tmp rfl _ _ _) rfl ?_
    exact ⟨ret_bool (by rw [← hMM.out]; simp [mayM, c5.out]), by go_grown⟩
  replace c5 := hid_mk c5
  go_wp2_with fail
  refine (ewithin_any _ _ _ _).mono ?_
  rintro e w' ⟨rfl, rfl⟩
  cases c6 : inB 0 0 term
  · replace c6 := hid_mk c6
    go_wp2
    refine ends_ret hQ (results_tmp rfl _ _ _) rfl ?_
    exact ⟨ret_bool (by rw [← hMM.out]; simp [mayM, c6.out]), by go_grown⟩
  replace c6 := hid_mk c6
  go_wp2
  refine ends_ret hQ (results_tmp rfl _ _ _) rfl ?_
  exact ⟨ret_bool (by rw [← hMM.out]; simp [mayM, formM, bodyM, c0.out, c1.out, c3.out, c4.out, c5.out, c6.out, cq2.out, show inB 4 1 5 = true from rfl] <;> rfl), by go_grown⟩
end Go.Proofs.YtncdjmpdbinanaaGreatDoor
namespace Go.Proofs.YtncdjmpdbinanaaGreatDoor
open Go.RowKit

set_option maxRecDepth 100000 in
set_option maxHeartbeats 12800000 in
theorem EMay_5 (fr to term : Int) (ok : Bool) (index lterm : Int) (rs : List Rec) (commit : Int) (s : ByteArray) (vs : List Int) (RA : Option Addr) (n Rc : Nat) (VA : Option Addr) (m Vc : Nat) (w : World) {B : Nat} (hrb : n ≤ 140737488355328) (hvb : m ≤ 140737488355328) (hr : Recs w B RA n rs) (hi : Ints w B VA m vs) :
    Calls Tryz.prog 39 #[.agg #[.int .i64 5, .int .i64 fr, .int .i64 to, .int .i64 term, .bool ok, .int .i64 index, .int .i64 lterm, .slice RA n Rc, .int .i64 commit, .string s, .slice VA m Vc]] w fun e w' => e = .returned (.bool (mayM ⟨5, fr, to, term, ok, index, lterm, rs, commit, s, vs⟩)) ∧ Below w.heap.size w w' := by
  obtain ⟨MM, hMM⟩ : ∃ MM : Ms, (⟨5, fr, to, term, ok, index, lterm, rs, commit, s, vs⟩ : Ms) = MM := ⟨_, rfl⟩
  rw [hMM]
  have hlr := hid_mk hr.len
  have hlv := hid_mk hi.len
  replace hMM := hid_mk hMM
  by_cases k1 : index < 1
  · skip
    refine calls_of_wpQ Tryz.func39 rfl ?_
    intro Q hQ
    simp only [Tryz.ntmps39, List.size_toArray, List.length_cons, List.length_nil, Nat.reduceAdd, Nat.reduceSub, Array.replicate_succ, Array.replicate_zero, List.push_toArray, List.append_toArray, List.nil_append, List.cons_append]
    go_wp2_with fail
    go_region_held3 (fun w' => w'.cell? ⟨w.heap.size, 5, none⟩ = some (.int .i64 index) ∧ w'.cell? ⟨w.heap.size, 6, none⟩ = some (.int .i64 lterm) ∧ w'.cell? ⟨w.heap.size, 9, none⟩ = some (.string s)) (go_keep) (first | fail)
    go_wp2
    refine ends_ret hQ (results_tmp rfl _ _ _) rfl ?_
    exact ⟨ret_bool (by rw [← hMM.out]; simp [mayM, formM, bodyM]; intros; omega), by go_grown⟩
  by_cases k2 : lterm < 1
  · skip
    refine calls_of_wpQ Tryz.func39 rfl ?_
    intro Q hQ
    simp only [Tryz.ntmps39, List.size_toArray, List.length_cons, List.length_nil, Nat.reduceAdd, Nat.reduceSub, Array.replicate_succ, Array.replicate_zero, List.push_toArray, List.append_toArray, List.nil_append, List.cons_append]
    go_wp2_with fail
    go_region_held3 (fun w' => w'.cell? ⟨w.heap.size, 5, none⟩ = some (.int .i64 index) ∧ w'.cell? ⟨w.heap.size, 6, none⟩ = some (.int .i64 lterm) ∧ w'.cell? ⟨w.heap.size, 9, none⟩ = some (.string s)) (go_keep) (first | fail)
    go_wp2
    refine ends_ret hQ (results_tmp rfl _ _ _) rfl ?_
    exact ⟨ret_bool (by rw [← hMM.out]; simp [mayM, formM, bodyM]; intros; omega), by go_grown⟩
  by_cases k3 : 131072 < s.size
  · skip
    refine calls_of_wpQ Tryz.func39 rfl ?_
    intro Q hQ
    simp only [Tryz.ntmps39, List.size_toArray, List.length_cons, List.length_nil, Nat.reduceAdd, Nat.reduceSub, Array.replicate_succ, Array.replicate_zero, List.push_toArray, List.append_toArray, List.nil_append, List.cons_append]
    go_wp2_with fail
    go_region_held3 (fun w' => w'.cell? ⟨w.heap.size, 5, none⟩ = some (.int .i64 index) ∧ w'.cell? ⟨w.heap.size, 6, none⟩ = some (.int .i64 lterm) ∧ w'.cell? ⟨w.heap.size, 9, none⟩ = some (.string s)) (go_keep) (first | fail)
    go_wp2
    refine ends_ret hQ (results_tmp rfl _ _ _) rfl ?_
    exact ⟨ret_bool (by rw [← hMM.out]; simp [mayM, formM, bodyM]; intros; omega), by go_grown⟩
  obtain ⟨z4, k4⟩ : ∃ z, rightL vs = z := ⟨_, rfl⟩
  replace k4 := hid_mk k4
  cases z4
  case false =>
    refine calls_of_wpQ Tryz.func39 rfl ?_
    intro Q hQ
    simp only [Tryz.ntmps39, List.size_toArray, List.length_cons, List.length_nil, Nat.reduceAdd, Nat.reduceSub, Array.replicate_succ, Array.replicate_zero, List.push_toArray, List.append_toArray, List.nil_append, List.cons_append]
    go_wp2_with fail
    go_region_held3 (fun w' => w'.cell? ⟨w.heap.size, 5, none⟩ = some (.int .i64 index) ∧ w'.cell? ⟨w.heap.size, 6, none⟩ = some (.int .i64 lterm) ∧ w'.cell? ⟨w.heap.size, 9, none⟩ = some (.string s)) (go_keep) (first | fail)
    go_wp2_with (go_at_call 101; refine (qRight_any VA m Vc vs _ B (by omega) (hi.to (by go_grown))).mono ?_; rw [k4.out]; rintro e w' ⟨rfl, rfl⟩)
    refine ends_ret hQ (results_tmp rfl _ _ _) rfl ?_
    exact ⟨ret_bool (by rw [← hMM.out]; simp [mayM, formM, bodyM, k4.out]), by go_grown⟩
  have k5 : 1 ≤ index := by omega
  have k6 : 1 ≤ lterm := by omega
  have k7 : s.size ≤ 131072 := by omega
  cases ok
  case true =>
    refine calls_of_wpQ Tryz.func39 rfl ?_
    intro Q hQ
    simp only [Tryz.ntmps39, List.size_toArray, List.length_cons, List.length_nil, Nat.reduceAdd, Nat.reduceSub, Array.replicate_succ, Array.replicate_zero, List.push_toArray, List.append_toArray, List.nil_append, List.cons_append]
    go_wp2_with fail
    go_region_held3 (fun w' => w'.cell? ⟨w.heap.size, 5, none⟩ = some (.int .i64 index) ∧ w'.cell? ⟨w.heap.size, 6, none⟩ = some (.int .i64 lterm) ∧ w'.cell? ⟨w.heap.size, 9, none⟩ = some (.string s)) (go_keep) (first | fail)
    go_wp2_with (go_at_call 101; refine (qRight_any VA m Vc vs _ B (by omega) (hi.to (by go_grown))).mono ?_; rw [k4.out]; rintro e w' ⟨rfl, rfl⟩)
    refine ends_ret hQ (results_tmp rfl _ _ _) rfl ?_
    exact ⟨ret_bool (by rw [← hMM.out]; simp [mayM, formM, bodyM]), by go_grown⟩
  by_cases zcommit : commit = 0
  case neg =>
    have e1 : ((0 : Int) == commit) = false := by simp; omega
    have e2 : (commit == (0 : Int)) = false := by simpa using zcommit
    have e3 := hid_mk zcommit
    clear zcommit
    refine calls_of_wpQ Tryz.func39 rfl ?_
    intro Q hQ
    simp only [Tryz.ntmps39, List.size_toArray, List.length_cons, List.length_nil, Nat.reduceAdd, Nat.reduceSub, Array.replicate_succ, Array.replicate_zero, List.push_toArray, List.append_toArray, List.nil_append, List.cons_append]
    go_wp2_with fail
    go_region_held3 (fun w' => w'.cell? ⟨w.heap.size, 5, none⟩ = some (.int .i64 index) ∧ w'.cell? ⟨w.heap.size, 6, none⟩ = some (.int .i64 lterm) ∧ w'.cell? ⟨w.heap.size, 9, none⟩ = some (.string s)) (go_keep) (first | fail)
    go_wp2_with (go_at_call 101; refine (qRight_any VA m Vc vs _ B (by omega) (hi.to (by go_grown))).mono ?_; rw [k4.out]; rintro e w' ⟨rfl, rfl⟩)
    refine ends_ret hQ (results_tmp rfl _ _ _) rfl ?_
    exact ⟨ret_bool (by rw [← hMM.out]; simp [mayM, formM, bodyM, e3.out]), by go_grown⟩
  subst zcommit
  by_cases zn : n = 0
  case neg =>
    have e1 : 0 < n := by omega
    have e2 : 0 < rs.length := by have := hlr.out; omega
    have e3 := hid_mk e2
    clear e2 zn
    refine calls_of_wpQ Tryz.func39 rfl ?_
    intro Q hQ
    simp only [Tryz.ntmps39, List.size_toArray, List.length_cons, List.length_nil, Nat.reduceAdd, Nat.reduceSub, Array.replicate_succ, Array.replicate_zero, List.push_toArray, List.append_toArray, List.nil_append, List.cons_append]
    go_wp2_with fail
    go_region_held3 (fun w' => w'.cell? ⟨w.heap.size, 5, none⟩ = some (.int .i64 index) ∧ w'.cell? ⟨w.heap.size, 6, none⟩ = some (.int .i64 lterm) ∧ w'.cell? ⟨w.heap.size, 9, none⟩ = some (.string s)) (go_keep) (first | fail)
    go_wp2_with (go_at_call 101; refine (qRight_any VA m Vc vs _ B (by omega) (hi.to (by go_grown))).mono ?_; rw [k4.out]; rintro e w' ⟨rfl, rfl⟩)
    refine ends_ret hQ (results_tmp rfl _ _ _) rfl ?_
    exact ⟨ret_bool (by rw [← hMM.out]; simp [mayM, formM, bodyM, e3.out]), by go_grown⟩
  subst zn
  obtain rfl : rs = [] := List.eq_nil_of_length_eq_zero hlr.out
  refine calls_of_wpQ Tryz.func39 rfl ?_
  intro Q hQ
  simp only [Tryz.ntmps39, List.size_toArray, List.length_cons, List.length_nil, Nat.reduceAdd, Nat.reduceSub, Array.replicate_succ, Array.replicate_zero, List.push_toArray, List.append_toArray, List.nil_append, List.cons_append]
  go_wp2_with fail
  go_region_held3 (fun w' => w'.cell? ⟨w.heap.size, 5, none⟩ = some (.int .i64 index) ∧ w'.cell? ⟨w.heap.size, 6, none⟩ = some (.int .i64 lterm) ∧ w'.cell? ⟨w.heap.size, 9, none⟩ = some (.string s)) (go_keep) (first | fail)
  go_wp2_with (go_at_call 101; refine (qRight_any VA m Vc vs _ B (by omega) (hi.to (by go_grown))).mono ?_; rw [k4.out]; rintro e w' ⟨rfl, rfl⟩)
  refine (ewithin_any _ _ _ _).mono ?_
  rintro e w' ⟨rfl, rfl⟩
  cases c0 : inB fr 1 9
  · replace c0 := hid_mk c0
    go_wp2
    refine ends_ret hQ (results_tmp rfl _ _ _) rfl ?_
    exact ⟨ret_bool (by rw [← hMM.out]; simp [mayM, c0.out]), by go_grown⟩
  replace c0 := hid_mk c0
  go_wp2_with fail
  refine (ewithin_any _ _ _ _).mono ?_
  rintro e w' ⟨rfl, rfl⟩
  cases c1 : inB to 1 9
  · replace c1 := hid_mk c1
    go_wp2
    refine ends_ret hQ (results_tmp rfl _ _ _) rfl ?_
    exact ⟨ret_bool (by rw [← hMM.out]; simp [mayM, c1.out]), by go_grown⟩
  replace c1 := hid_mk c1
  by_cases cq : fr = to
  · have cq1 : (fr == to) = true := by simpa using cq
    have cq2 := hid_mk cq
    clear cq
    go_wp2
    refine ends_ret hQ (results_tmp rfl _ _ _) rfl ?_
    exact ⟨ret_bool (by rw [← hMM.out]; simp [mayM, cq2.out]), by go_grown⟩
  have cq1 : (fr == to) = false := by simpa using cq
  have cq2 := hid_mk cq1
  clear cq
  go_wp2_with fail
  refine (ewithin_any _ _ _ _).mono ?_
  rintro e w' ⟨rfl, rfl⟩
  cases c3 : inB term 1 1073741824
  · replace c3 := hid_mk c3
    go_wp2
    refine ends_ret hQ (results_tmp rfl _ _ _) rfl ?_
    exact ⟨ret_bool (by rw [← hMM.out]; simp [mayM, c3.out]), by go_grown⟩
  replace c3 := hid_mk c3
  go_wp2_with fail
  refine (ewithin_any _ _ _ _).mono ?_
  rintro e w' ⟨rfl, rfl⟩
  cases c4 : inB index 0 1073741824
  · replace c4 := hid_mk c4
    go_wp2
    refine ends_ret hQ (results_tmp rfl _ _ _) rfl ?_
    exact ⟨ret_bool (by rw [← hMM.out]; simp [mayM, c4.out]), by go_grown⟩
  replace c4 := hid_mk c4
  go_wp2_with fail
  refine (ewithin_any _ _ _ _).mono ?_
  rintro e w' ⟨rfl, rfl⟩
  cases c5 : inB 0 0 1073741824
  · replace c5 := hid_mk c5
    go_wp2
    refine ends_ret hQ (results_tmp rfl _ _ _) rfl ?_
    exact ⟨ret_bool (by rw [← hMM.out]; simp [mayM, c5.out]), by go_grown⟩
  replace c5 := hid_mk c5
  go_wp2_with fail
  refine (ewithin_any _ _ _ _).mono ?_
  rintro e w' ⟨rfl, rfl⟩
  cases c6 : inB lterm 0 term
  · replace c6 := hid_mk c6
    go_wp2
    refine ends_ret hQ (results_tmp rfl _ _ _) rfl ?_
    exact ⟨ret_bool (by rw [← hMM.out]; simp [mayM, c6.out]), by go_grown⟩
  replace c6 := hid_mk c6
  go_wp2
  refine ends_ret hQ (results_tmp rfl _ _ _) rfl ?_
  exact ⟨ret_bool (by rw [← hMM.out]; simp [mayM, formM, bodyM, c0.out, c1.out, c3.out, c4.out, c5.out, c6.out, cq2.out, k4.out, k5, k6, k7, show inB 5 1 5 = true from rfl] <;> rfl), by go_grown⟩
end Go.Proofs.YtncdjmpdbinanaaGreatDoor
namespace Go.Proofs.YtncdjmpdbinanaaGreatDoor
open Go.RowKit

set_option maxRecDepth 100000 in
set_option maxHeartbeats 3200000 in
theorem EMay_x (kind fr to term : Int) (ok : Bool) (index lterm : Int) (rs : List Rec) (commit : Int) (s : ByteArray) (vs : List Int) (RA : Option Addr) (n Rc : Nat) (VA : Option Addr) (m Vc : Nat) (w : World) (h1 : (kind == 1) = false) (h2 : (kind == 2) = false) (h3 : (kind == 3) = false) (h4 : (kind == 4) = false) (h5 : (kind == 5) = false) :
    Calls Tryz.prog 39 #[.agg #[.int .i64 kind, .int .i64 fr, .int .i64 to, .int .i64 term, .bool ok, .int .i64 index, .int .i64 lterm, .slice RA n Rc, .int .i64 commit, .string s, .slice VA m Vc]] w fun e w' => e = .returned (.bool (mayM ⟨kind, fr, to, term, ok, index, lterm, rs, commit, s, vs⟩)) ∧ Below w.heap.size w w' := by
  have hk : inB kind 1 5 = false := by
    unfold inB
    simp only [beq_eq_false_iff_ne, ne_eq] at h1 h2 h3 h4 h5
    simp only [Bool.and_eq_false_imp, decide_eq_true_eq, decide_eq_false_iff_not]
    omega
  have hf : mayM ⟨kind, fr, to, term, ok, index, lterm, rs, commit, s, vs⟩ = false := by unfold mayM; simp [hk]
  rw [hf]
  replace hf := hid_mk hf
  replace hk := hid_mk hk
  refine calls_of_wpQ Tryz.func39 rfl ?_
  intro Q hQ
  simp only [Tryz.ntmps39, List.size_toArray, List.length_cons, List.length_nil, Nat.reduceAdd, Nat.reduceSub, Array.replicate_succ, Array.replicate_zero, List.push_toArray, List.append_toArray, List.nil_append, List.cons_append]
  go_wp2
  refine ends_ret hQ (results_tmp rfl _ _ _) rfl ?_
  exact ⟨rfl, by go_grown⟩
theorem EMay_any (M : Ms) (a : MsA) (w : World) {B : Nat} (hM : MsOk w B M a) : Calls Tryz.prog 39 #[msgV M a] w fun e w' => e = .returned (.bool (mayM M)) ∧ Below w.heap.size w w' := by
  obtain ⟨hr, hrc, hrb, hi, hvc, hvb, _⟩ := hM
  obtain ⟨kind, fr, to, term, ok, index, lterm, rs, commit, s, vs⟩ := M
  obtain ⟨⟨RA, n, Rc⟩, ⟨VA, m, Vc⟩⟩ := a
  dsimp only at hr hrc hrb hi hvc hvb
  unfold msgV
  dsimp only
  by_cases k1 : kind = 1
  · subst k1; exact EMay_1 fr to term ok index lterm rs commit s vs RA n Rc VA m Vc w (by omega) (by omega) hr hi
  by_cases k2 : kind = 2
  · subst k2; exact EMay_2 fr to term ok index lterm rs commit s vs RA n Rc VA m Vc w (by omega) (by omega) hr hi
  by_cases k3 : kind = 3
  · subst k3; exact EMay_3 fr to term ok index lterm rs commit s vs RA n Rc VA m Vc w (by omega) (by omega) hr hi
  by_cases k4 : kind = 4
  · subst k4; exact EMay_4 fr to term ok index lterm rs commit s vs RA n Rc VA m Vc w (by omega) (by omega) hr hi
  by_cases k5 : kind = 5
  · subst k5; exact EMay_5 fr to term ok index lterm rs commit s vs RA n Rc VA m Vc w (by omega) (by omega) hr hi
  exact EMay_x kind fr to term ok index lterm rs commit s vs RA n Rc VA m Vc w (by simpa using k1) (by simpa using k2) (by simpa using k3) (by simpa using k4) (by simpa using k5)
end Go.Proofs.YtncdjmpdbinanaaGreatDoor
