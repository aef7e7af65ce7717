/-
  WHAT IS PROVED HERE: which message may be, as data. No condition.
  WHAT IS PROVED HERE: what elect.May hands back of a message. Condition: the slices are of at most 2^47 elements.
  WHAT IS PROVED HERE: what elect.May hands back of a message. Condition: the slices are of at most 2^47 elements.
-/
import Derived.Test.YtncdjmpdbinanaaGreatDoorZGEl0
import Derived.Test.YtncdjmpdbinanaaGreatDoorZGReg
namespace Go.Proofs.YtncdjmpdbinanaaGreatDoor
open Go.RowKit

def formM (M : Ms) : Bool :=
  !(M.ok && (M.kind != 2 && M.kind != 4)) && (!(M.index != 0 && M.kind == 2) && (!(M.lterm != 0 && (M.kind == 2 || M.kind == 4)) && (!(M.commit != 0 && M.kind != 3) && (!(decide (0 < M.rs.length) && M.kind != 3) && (!(decide (0 < M.s.size) && M.kind != 5) && !(decide (0 < M.vs.length) && M.kind != 5))))))
def bodyM (M : Ms) : Bool :=
  if M.kind == 5 then decide (1 ≤ M.index) && (decide (1 ≤ M.lterm) && (decide (M.s.size ≤ 131072) && rightL M.vs)) else if M.kind != 3 then true else (M.rs.all (fun r => decide (r.t ≤ M.term)) && (decide (M.rs.length ≤ 20) && rightJ ⟨M.index, M.lterm, M.rs⟩))
/-- may the message be? -/
def mayM (M : Ms) : Bool :=
  inB M.kind 1 5 && (inB M.fr 1 9 && (inB M.to 1 9 && (!(M.fr == M.to) && (inB M.term 1 1073741824 && (inB M.index 0 1073741824 && (inB M.commit 0 1073741824 && (inB M.lterm 0 M.term && (formM M && bodyM M))))))))
theorem ba_empty {s : ByteArray} (h : s.size = 0) : s = ⟨#[]⟩ := by
  obtain ⟨d⟩ := s
  have : d.size = 0 := h
  rw [Array.eq_empty_of_size_eq_zero this]
theorem ne_toL {s : ByteArray} (h : 0 < s.size) : ((⟨#[]⟩ : ByteArray).toList == s.toList) = false ∧ ¬ s.toList = [] ∧ (([] : List UInt8) == s.toList) = false ∧ (s.toList == []) = false ∧ ¬ [] = s.toList := by
  have e0 : (⟨#[]⟩ : ByteArray).toList = [] := by rw [Lib.toList_data]
  have hne : ¬ s.toList = [] := by
    rw [Lib.toList_data]
    intro e
    have : s.data.toList.length = s.size := rfl
    rw [e] at this
    simp at this
    omega
  have hne' : ¬ [] = s.toList := fun e => hne e.symm
  rw [e0]
  refine ⟨?_, hne, ?_, ?_, hne'⟩
  · simpa using hne'
  · simpa using hne'
  · simpa using hne
theorem okRecs_all : ∀ (rs : List Rec) (term T : Int), okRecs term rs = true → (∀ r, rs.getLast? = some r → r.t ≤ T) → rs.all (fun r => decide (r.t ≤ T)) = true
  | [], _, _, _, _ => rfl
  | [r], term, T, _, hl => by simpa using hl r rfl
  | r :: r2 :: rs, term, T, h, hl => by
    rw [okRecs] at h
    split at h
    · have ih := okRecs_all (r2 :: rs) r.t T h (fun x hx => hl x (by rw [List.getLast?_cons_cons]; exact hx))
      have h2 : r.t ≤ r2.t := by
        rw [okRecs] at h
        split at h
        · rename_i hc
          simp only [inB, Bool.and_eq_true, decide_eq_true_eq] at hc
          omega
        · cases h
      rw [List.all_cons, ih, Bool.and_true]
      rw [List.all_cons, Bool.and_eq_true] at ih
      have := ih.1
      simp only [decide_eq_true_eq] at this ⊢
      omega
    · cases h
theorem all_last {rs : List Rec} {T : Int} {r : Rec} (h : rs.getLast? = some r) (hr : ¬ r.t ≤ T) : rs.all (fun r => decide (r.t ≤ T)) = false := by
  rw [List.all_eq_false]
  exact ⟨r, List.mem_of_getLast? h, by simpa using hr⟩
end Go.Proofs.YtncdjmpdbinanaaGreatDoor
namespace Go.Proofs.YtncdjmpdbinanaaGreatDoor
open Go.RowKit

theorem blk11 {w : World} {g : Nat} {t : TypeId} {a0 a1 a2 a3 a4 a5 a6 a7 a8 a9 a10 : Value} (h : Blk w g t #[a0, a1, a2, a3, a4, a5, a6, a7, a8, a9, a10]) :
    g < w.heap.size ∧ w.cell? ⟨g, 0, none⟩ = some a0 ∧ w.cell? ⟨g, 1, none⟩ = some a1 ∧ w.cell? ⟨g, 2, none⟩ = some a2 ∧ w.cell? ⟨g, 3, none⟩ = some a3 ∧ w.cell? ⟨g, 4, none⟩ = some a4 ∧ w.cell? ⟨g, 5, none⟩ = some a5 ∧ w.cell? ⟨g, 6, none⟩ = some a6 ∧ w.cell? ⟨g, 7, none⟩ = some a7 ∧ w.cell? ⟨g, 8, none⟩ = some a8 ∧ w.cell? ⟨g, 9, none⟩ = some a9 ∧ w.cell? ⟨g, 10, none⟩ = some a10 :=
  ⟨h.lt, h.cell 0, h.cell 1, h.cell 2, h.cell 3, h.cell 4, h.cell 5, h.cell 6, h.cell 7, h.cell 8, h.cell 9, h.cell 10⟩
set_option maxRecDepth 100000 in
set_option maxHeartbeats 12800000 in
theorem EMay_1 (fr to term : Int) (ok : Bool) (index lterm : Int) (rs : List Rec) (commit : Int) (s : ByteArray) (vs : List Int) (RA : Option Addr) (n Rc : Nat) (VA : Option Addr) (m Vc : Nat) (w : World) {B : Nat} (hrb : n ≤ 140737488355328) (hvb : m ≤ 140737488355328) (hr : Recs w B RA n rs) (hi : Ints w B VA m vs) :
    Calls Tryz.prog 39 #[.agg #[.int .i64 1, .int .i64 fr, .int .i64 to, .int .i64 term, .bool ok, .int .i64 index, .int .i64 lterm, .slice RA n Rc, .int .i64 commit, .string s, .slice VA m Vc]] w fun e w' => e = .returned (.bool (mayM ⟨1, fr, to, term, ok, index, lterm, rs, commit, s, vs⟩)) ∧ Below w.heap.size w w' := by
  obtain ⟨MM, hMM⟩ : ∃ MM : Ms, (⟨1, fr, to, term, ok, index, lterm, rs, commit, s, vs⟩ : Ms) = MM := ⟨_, rfl⟩
  rw [hMM]
  have hlr := hid_mk hr.len
  have hlv := hid_mk hi.len
  replace hMM := hid_mk hMM
  cases ok
  case true =>
    refine calls_of_wpQ Tryz.func39 rfl ?_
    intro Q hQ
    simp only [Tryz.ntmps39, List.size_toArray, List.length_cons, List.length_nil, Nat.reduceAdd, Nat.reduceSub, Array.replicate_succ, Array.replicate_zero, List.push_toArray, List.append_toArray, List.nil_append, List.cons_append]
    go_wp2_with fail
    go_region_held3 (fun w' => w'.cell? ⟨w.heap.size, 5, none⟩ = some (.int .i64 index) ∧ w'.cell? ⟨w.heap.size, 6, none⟩ = some (.int .i64 lterm)) (go_keep) (first | fail)
    go_wp2
    refine ends_ret hQ (results_tmp rfl _ _ _) rfl ?_
    exact ⟨ret_bool (by rw [← hMM.out]; simp [mayM, formM, bodyM]), by go_grown⟩
  by_cases zcommit : commit = 0
  case neg =>
    have e1 : ((0 : Int) == commit) = false := by simp; omega
    have e2 : (commit == (0 : Int)) = false := by simpa using zcommit
    have e3 := hid_mk zcommit
    clear zcommit
    refine calls_of_wpQ Tryz.func39 rfl ?_
    intro Q hQ
    simp only [Tryz.ntmps39, List.size_toArray, List.length_cons, List.length_nil, Nat.reduceAdd, Nat.reduceSub, Array.replicate_succ, Array.replicate_zero, List.push_toArray, List.append_toArray, List.nil_append, List.cons_append]
    go_wp2_with fail
    go_region_held3 (fun w' => w'.cell? ⟨w.heap.size, 5, none⟩ = some (.int .i64 index) ∧ w'.cell? ⟨w.heap.size, 6, none⟩ = some (.int .i64 lterm)) (go_keep) (first | fail)
    go_wp2
    refine ends_ret hQ (results_tmp rfl _ _ _) rfl ?_
    exact ⟨ret_bool (by rw [← hMM.out]; simp [mayM, formM, bodyM, e3.out]), by go_grown⟩
  subst zcommit
  by_cases zs : s.size = 0
  case neg =>
    have e2 : 0 < s.size := by omega
    have e4 := hid_mk e2
    obtain ⟨s1, s2, s3, s4, s5⟩ := ne_toL e2
    clear zs e2
    refine calls_of_wpQ Tryz.func39 rfl ?_
    intro Q hQ
    simp only [Tryz.ntmps39, List.size_toArray, List.length_cons, List.length_nil, Nat.reduceAdd, Nat.reduceSub, Array.replicate_succ, Array.replicate_zero, List.push_toArray, List.append_toArray, List.nil_append, List.cons_append]
    go_wp2_with fail
    go_region_held3 (fun w' => w'.cell? ⟨w.heap.size, 5, none⟩ = some (.int .i64 index) ∧ w'.cell? ⟨w.heap.size, 6, none⟩ = some (.int .i64 lterm)) (go_keep) (first | fail)
    go_wp2
    refine ends_ret hQ (results_tmp rfl _ _ _) rfl ?_
    exact ⟨ret_bool (by rw [← hMM.out]; simp [mayM, formM, bodyM, e4.out]), by go_grown⟩
  obtain rfl := ba_empty zs
  clear zs
  by_cases zn : n = 0
  case neg =>
    have e1 : 0 < n := by omega
    have e2 : 0 < rs.length := by have := hlr.out; omega
    have e3 := hid_mk e2
    clear e2 zn
    refine calls_of_wpQ Tryz.func39 rfl ?_
    intro Q hQ
    simp only [Tryz.ntmps39, List.size_toArray, List.length_cons, List.length_nil, Nat.reduceAdd, Nat.reduceSub, Array.replicate_succ, Array.replicate_zero, List.push_toArray, List.append_toArray, List.nil_append, List.cons_append]
    go_wp2_with fail
    go_region_held3 (fun w' => w'.cell? ⟨w.heap.size, 5, none⟩ = some (.int .i64 index) ∧ w'.cell? ⟨w.heap.size, 6, none⟩ = some (.int .i64 lterm)) (go_keep) (first | fail)
    go_wp2
    refine ends_ret hQ (results_tmp rfl _ _ _) rfl ?_
    exact ⟨ret_bool (by rw [← hMM.out]; simp [mayM, formM, bodyM, e3.out]), by go_grown⟩
  subst zn
  obtain rfl : rs = [] := List.eq_nil_of_length_eq_zero hlr.out
  by_cases zm : m = 0
  case neg =>
    have e1 : 0 < m := by omega
    have e2 : 0 < vs.length := by have := hlv.out; omega
    have e3 := hid_mk e2
    clear e2 zm
    refine calls_of_wpQ Tryz.func39 rfl ?_
    intro Q hQ
    simp only [Tryz.ntmps39, List.size_toArray, List.length_cons, List.length_nil, Nat.reduceAdd, Nat.reduceSub, Array.replicate_succ, Array.replicate_zero, List.push_toArray, List.append_toArray, List.nil_append, List.cons_append]
    go_wp2_with fail
    go_region_held3 (fun w' => w'.cell? ⟨w.heap.size, 5, none⟩ = some (.int .i64 index) ∧ w'.cell? ⟨w.heap.size, 6, none⟩ = some (.int .i64 lterm)) (go_keep) (first | fail)
    go_wp2
    refine ends_ret hQ (results_tmp rfl _ _ _) rfl ?_
    exact ⟨ret_bool (by rw [← hMM.out]; simp [mayM, formM, bodyM, e3.out]), by go_grown⟩
  subst zm
  obtain rfl : vs = [] := List.eq_nil_of_length_eq_zero hlv.out
  refine calls_of_wpQ Tryz.func39 rfl ?_
  intro Q hQ
  simp only [Tryz.ntmps39, List.size_toArray, List.length_cons, List.length_nil, Nat.reduceAdd, Nat.reduceSub, Array.replicate_succ, Array.replicate_zero, List.push_toArray, List.append_toArray, List.nil_append, List.cons_append]
  go_wp2_with fail
  go_region_held3 (fun w' => w'.cell? ⟨w.heap.size, 5, none⟩ = some (.int .i64 index) ∧ w'.cell? ⟨w.heap.size, 6, none⟩ = some (.int .i64 lterm)) (go_keep) (first | fail)
  go_wp2_with fail
  refine (ewithin_any _ _ _ _).mono ?_
  rintro e w' ⟨rfl, rfl⟩
  cases c0 : inB fr 1 9
  · replace c0 := hid_mk c0
    go_wp2
    refine ends_ret hQ (results_tmp rfl _ _ _) rfl ?_
    exact ⟨ret_bool (by rw [← hMM.out]; simp [mayM, c0.out]), by go_grown⟩
  replace c0 := hid_mk c0
  go_wp2_with fail
  refine (ewithin_any _ _ _ _).mono ?_
  rintro e w' ⟨rfl, rfl⟩
  cases c1 : inB to 1 9
  · replace c1 := hid_mk c1
    go_wp2
    refine ends_ret hQ (results_tmp rfl _ _ _) rfl ?_
    exact ⟨ret_bool (by rw [← hMM.out]; simp [mayM, c1.out]), by go_grown⟩
  replace c1 := hid_mk c1
  by_cases cq : fr = to
  · have cq1 : (fr == to) = true := by simpa using cq
    have cq2 := hid_mk cq
    clear cq
    go_wp2
    refine ends_ret hQ (results_tmp rfl _ _ _) rfl ?_
    exact ⟨ret_bool (by rw [← hMM.out]; simp [mayM, cq2.out]), by go_grown⟩
  have cq1 : (fr == to) = false := by simpa using cq
  have cq2 := hid_mk cq1
  clear cq
  go_wp2_with fail
  refine (ewithin_any _ _ _ _).mono ?_
  rintro e w' ⟨rfl, rfl⟩
  cases c3 : inB term 1 1073741824
  · replace c3 := hid_mk c3
    go_wp2
    refine ends_ret hQ (results_tmp rfl _ _ _) rfl ?_
    exact ⟨ret_bool (by rw [← hMM.out]; simp [mayM, c3.out]), by go_grown⟩
  replace c3 := hid_mk c3
  go_wp2_with fail
  refine (ewithin_any _ _ _ _).mono ?_
  rintro e w' ⟨rfl, rfl⟩
  cases c4 : inB index 0 1073741824
  · replace c4 := hid_mk c4
    go_wp2
    refine ends_ret hQ (results_tmp rfl _ _ _) rfl ?_
    exact ⟨ret_bool (by rw [← hMM.out]; simp [mayM, c4.out]), by go_grown⟩
  replace c4 := hid_mk c4
  go_wp2_with fail
  refine (ewithin_any _ _ _ _).mono ?_
  rintro e w' ⟨rfl, rfl⟩
  cases c5 : inB 0 0 1073741824
  · replace c5 := hid_mk c5
    go_wp2
    refine ends_ret hQ (results_tmp rfl _ _ _) rfl ?_
    exact ⟨ret_bool (by rw [← hMM.out]; simp [mayM, c5.out]), by go_grown⟩
  replace c5 := hid_mk c5
  go_wp2_with fail
  refine (ewithin_any _ _ _ _).mono ?_
  rintro e w' ⟨rfl, rfl⟩
  cases c6 : inB lterm 0 term
  · replace c6 := hid_mk c6
    go_wp2
    refine ends_ret hQ (results_tmp rfl _ _ _) rfl ?_
    exact ⟨ret_bool (by rw [← hMM.out]; simp [mayM, c6.out]), by go_grown⟩
  replace c6 := hid_mk c6
  go_wp2
  refine ends_ret hQ (results_tmp rfl _ _ _) rfl ?_
  exact ⟨ret_bool (by rw [← hMM.out]; simp [mayM, formM, bodyM, c0.out, c1.out, c3.out, c4.out, c5.out, c6.out, cq2.out, show inB 1 1 5 = true from rfl] <;> rfl), by go_grown⟩
end Go.Proofs.YtncdjmpdbinanaaGreatDoor
namespace Go.Proofs.YtncdjmpdbinanaaGreatDoor
open Go.RowKit

set_option maxRecDepth 100000 in
set_option maxHeartbeats 12800000 in
theorem EMay_2 (fr to term : Int) (ok : Bool) (index lterm : Int) (rs : List Rec) (commit : Int) (s : ByteArray) (vs : List Int) (RA : Option Addr) (n Rc : Nat) (VA : Option Addr) (m Vc : Nat) (w : World) {B : Nat} (hrb : n ≤ 140737488355328) (hvb : m ≤ 140737488355328) (hr : Recs w B RA n rs) (hi : Ints w B VA m vs) :
    Calls Tryz.prog 39 #[.agg #[.int .i64 2, .int .i64 fr, .int .i64 to, .int .i64 term, .bool ok, .int .i64 index, .int .i64 lterm, .slice RA n Rc, .int .i64 commit, .string s, .slice VA m Vc]] w fun e w' => e = .returned (.bool (mayM ⟨2, fr, to, term, ok, index, lterm, rs, commit, s, vs⟩)) ∧ Below w.heap.size w w' := by
  obtain ⟨MM, hMM⟩ : ∃ MM : Ms, (⟨2, fr, to, term, ok, index, lterm, rs, commit, s, vs⟩ : Ms) = MM := ⟨_, rfl⟩
  rw [hMM]
  have hlr := hid_mk hr.len
  have hlv := hid_mk hi.len
  replace hMM := hid_mk hMM
  by_cases zindex : index = 0
  case neg =>
    have e1 : ((0 : Int) == index) = false := by simp; omega
    have e2 : (index == (0 : Int)) = false := by simpa using zindex
    have e3 := hid_mk zindex
    clear zindex
    refine calls_of_wpQ Tryz.func39 rfl ?_
    intro Q hQ
    simp only [Tryz.ntmps39, List.size_toArray, List.length_cons, List.length_nil, Nat.reduceAdd, Nat.reduceSub, Array.replicate_succ, Array.replicate_zero, List.push_toArray, List.append_toArray, List.nil_append, List.cons_append]
    go_wp2
    refine ends_ret hQ (results_tmp rfl _ _ _) rfl ?_
    exact ⟨ret_bool (by rw [← hMM.out]; simp [mayM, formM, bodyM, e3.out]), by go_grown⟩
  subst zindex
  by_cases zlterm : lterm = 0
  case neg =>
    have e1 : ((0 : Int) == lterm) = false := by simp; omega
    have e2 : (lterm == (0 : Int)) = false := by simpa using zlterm
    have e3 := hid_mk zlterm
    clear zlterm
    refine calls_of_wpQ Tryz.func39 rfl ?_
    intro Q hQ
    simp only [Tryz.ntmps39, List.size_toArray, List.length_cons, List.length_nil, Nat.reduceAdd, Nat.reduceSub, Array.replicate_succ, Array.replicate_zero, List.push_toArray, List.append_toArray, List.nil_append, List.cons_append]
    go_wp2
    refine ends_ret hQ (results_tmp rfl _ _ _) rfl ?_
    exact ⟨ret_bool (by rw [← hMM.out]; simp [mayM, formM, bodyM, e3.out]), by go_grown⟩
  subst zlterm
  by_cases zcommit : commit = 0
  case neg =>
    have e1 : ((0 : Int) == commit) = false := by simp; omega
    have e2 : (commit == (0 : Int)) = false := by simpa using zcommit
    have e3 := hid_mk zcommit
    clear zcommit
    refine calls_of_wpQ Tryz.func39 rfl ?_
    intro Q hQ
    simp only [Tryz.ntmps39, List.size_toArray, List.length_cons, List.length_nil, Nat.reduceAdd, Nat.reduceSub, Array.replicate_succ, Array.replicate_zero, List.push_toArray, List.append_toArray, List.nil_append, List.cons_append]
    go_wp2
    refine ends_ret hQ (results_tmp rfl _ _ _) rfl ?_
    exact ⟨ret_bool (by rw [← hMM.out]; simp [mayM, formM, bodyM, e3.out]), by go_grown⟩
  subst zcommit
  by_cases zs : s.size = 0
  case neg =>
    have e2 : 0 < s.size := by omega
    have e4 := hid_mk e2
    obtain ⟨s1, s2, s3, s4, s5⟩ := ne_toL e2
    clear zs e2
    refine calls_of_wpQ Tryz.func39 rfl ?_
    intro Q hQ
    simp only [Tryz.ntmps39, List.size_toArray, List.length_cons, List.length_nil, Nat.reduceAdd, Nat.reduceSub, Array.replicate_succ, Array.replicate_zero, List.push_toArray, List.append_toArray, List.nil_append, List.cons_append]
    go_wp2
    refine ends_ret hQ (results_tmp rfl _ _ _) rfl ?_
    exact ⟨ret_bool (by rw [← hMM.out]; simp [mayM, formM, bodyM, e4.out]), by go_grown⟩
  obtain rfl := ba_empty zs
  clear zs
  by_cases zn : n = 0
  case neg =>
    have e1 : 0 < n := by omega
    have e2 : 0 < rs.length := by have := hlr.out; omega
    have e3 := hid_mk e2
    clear e2 zn
    refine calls_of_wpQ Tryz.func39 rfl ?_
    intro Q hQ
    simp only [Tryz.ntmps39, List.size_toArray, List.length_cons, List.length_nil, Nat.reduceAdd, Nat.reduceSub, Array.replicate_succ, Array.replicate_zero, List.push_toArray, List.append_toArray, List.nil_append, List.cons_append]
    go_wp2
    refine ends_ret hQ (results_tmp rfl _ _ _) rfl ?_
    exact ⟨ret_bool (by rw [← hMM.out]; simp [mayM, formM, bodyM, e3.out]), by go_grown⟩
  subst zn
  obtain rfl : rs = [] := List.eq_nil_of_length_eq_zero hlr.out
  by_cases zm : m = 0
  case neg =>
    have e1 : 0 < m := by omega
    have e2 : 0 < vs.length := by have := hlv.out; omega
    have e3 := hid_mk e2
    clear e2 zm
    refine calls_of_wpQ Tryz.func39 rfl ?_
    intro Q hQ
    simp only [Tryz.ntmps39, List.size_toArray, List.length_cons, List.length_nil, Nat.reduceAdd, Nat.reduceSub, Array.replicate_succ, Array.replicate_zero, List.push_toArray, List.append_toArray, List.nil_append, List.cons_append]
    go_wp2
    refine ends_ret hQ (results_tmp rfl _ _ _) rfl ?_
    exact ⟨ret_bool (by rw [← hMM.out]; simp [mayM, formM, bodyM, e3.out]), by go_grown⟩
  subst zm
  obtain rfl : vs = [] := List.eq_nil_of_length_eq_zero hlv.out
  refine calls_of_wpQ Tryz.func39 rfl ?_
  intro Q hQ
  simp only [Tryz.ntmps39, List.size_toArray, List.length_cons, List.length_nil, Nat.reduceAdd, Nat.reduceSub, Array.replicate_succ, Array.replicate_zero, List.push_toArray, List.append_toArray, List.nil_append, List.cons_append]
  go_wp2_with fail
  refine (ewithin_any _ _ _ _).mono ?_
  rintro e w' ⟨rfl, rfl⟩
  cases c0 : inB fr 1 9
  · replace c0 := hid_mk c0
    go_wp2
    refine ends_ret hQ (results_tmp rfl _ _ _) rfl ?_
    exact ⟨ret_bool (by rw [← hMM.out]; simp [mayM, c0.out]), by go_grown⟩
  replace c0 := hid_mk c0
  go_wp2_with fail
  refine (ewithin_any _ _ _ _).mono ?_
  rintro e w' ⟨rfl, rfl⟩
  cases c1 : inB to 1 9
  · replace c1 := hid_mk c1
    go_wp2
    refine ends_ret hQ (results_tmp rfl _ _ _) rfl ?_
    exact ⟨ret_bool (by rw [← hMM.out]; simp [mayM, c1.out]), by go_grown⟩
  replace c1 := hid_mk c1
  by_cases cq : fr = to
  · have cq1 : (fr == to) = true := by simpa using cq
    have cq2 := hid_mk cq
    clear cq
    go_wp2
    refine ends_ret hQ (results_tmp rfl _ _ _) rfl ?_
    exact ⟨ret_bool (by rw [← hMM.out]; simp [mayM, cq2.out]), by go_grown⟩
  have cq1 : (fr == to) = false := by simpa using cq
  have cq2 := hid_mk cq1
  clear cq
  go_wp2_with fail
  refine (ewithin_any _ _ _ _).mono ?_
  rintro e w' ⟨rfl, rfl⟩
  cases c3 : inB term 1 1073741824
  · replace c3 := hid_mk c3
    go_wp2
    refine ends_ret hQ (results_tmp rfl _ _ _) rfl ?_
    exact ⟨ret_bool (by rw [← hMM.out]; simp [mayM, c3.out]), by go_grown⟩
  replace c3 := hid_mk c3
  go_wp2_with fail
  refine (ewithin_any _ _ _ _).mono ?_
  rintro e w' ⟨rfl, rfl⟩
  cases c4 : inB 0 0 1073741824
  · replace c4 := hid_mk c4
    go_wp2
    refine ends_ret hQ (results_tmp rfl _ _ _) rfl ?_
    exact ⟨ret_bool (by rw [← hMM.out]; simp [mayM, c4.out]), by go_grown⟩
  replace c4 := hid_mk c4
  go_wp2_with fail
  refine (ewithin_any _ _ _ _).mono ?_
  rintro e w' ⟨rfl, rfl⟩
  cases c5 : inB 0 0 1073741824
  · replace c5 := hid_mk c5
    go_wp2
    refine ends_ret hQ (results_tmp rfl _ _ _) rfl ?_
    exact ⟨ret_bool (by rw [← hMM.out]; simp [mayM, c5.out]), by go_grown⟩
  replace c5 := hid_mk c5
  go_wp2_with fail
  refine (ewithin_any _ _ _ _).mono ?_
  rintro e w' ⟨rfl, rfl⟩
  cases c6 : inB 0 0 term
  · replace c6 := hid_mk c6
    go_wp2
    refine ends_ret hQ (results_tmp rfl _ _ _) rfl ?_
    exact ⟨ret_bool (by rw [← hMM.out]; simp [mayM, c6.out]), by go_grown⟩
  replace c6 := hid_mk c6
  go_wp2
  refine ends_ret hQ (results_tmp rfl _ _ _) rfl ?_
  exact ⟨ret_bool (by rw [← hMM.out]; simp [mayM, formM, bodyM, c0.out, c1.out, c3.out, c4.out, c6.out, cq2.out, show inB 2 1 5 = true from rfl] <;> rfl), by go_grown⟩
end Go.Proofs.YtncdjmpdbinanaaGreatDoor
