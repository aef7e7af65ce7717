/-
  WHAT IS PROVED HERE: what bits.RotateLeft32, digest's turning and the reference's turned hand back, at the ten counts that SHA-256 uses. Conditions: none.
-/
import Derived.Test.YtngaeencnklbdaaMem
import Derived.Test.YtngaeencnklbdaaEnds
namespace Go.Proofs.Ytngaeencnklbdaa
open Go.RowKit

def oU (a b : Int) : Int := bits BinOp.or IntKind.u32 a b
/-- x turned right by n -/
def rU (x : Int) (n : Nat) : Int := oU (x / 2 ^ n) (x * 2 ^ (32 - n) % 4294967296)
theorem or_comm_ (a b : Int) : bits BinOp.or IntKind.u32 a b = bits BinOp.or IntKind.u32 b a := by
  unfold bits
  simp [Nat.or_comm]
theorem rU_2 (x : Int) : rU x 2 = bits BinOp.or IntKind.u32 (x / 4) (x * 1073741824 % 4294967296) := rfl
theorem rU_6 (x : Int) : rU x 6 = bits BinOp.or IntKind.u32 (x / 64) (x * 67108864 % 4294967296) := rfl
theorem rU_7 (x : Int) : rU x 7 = bits BinOp.or IntKind.u32 (x / 128) (x * 33554432 % 4294967296) := rfl
theorem rU_11 (x : Int) : rU x 11 = bits BinOp.or IntKind.u32 (x / 2048) (x * 2097152 % 4294967296) := rfl
theorem rU_13 (x : Int) : rU x 13 = bits BinOp.or IntKind.u32 (x / 8192) (x * 524288 % 4294967296) := rfl
theorem rU_17 (x : Int) : rU x 17 = bits BinOp.or IntKind.u32 (x / 131072) (x * 32768 % 4294967296) := rfl
theorem rU_18 (x : Int) : rU x 18 = bits BinOp.or IntKind.u32 (x / 262144) (x * 16384 % 4294967296) := rfl
theorem rU_19 (x : Int) : rU x 19 = bits BinOp.or IntKind.u32 (x / 524288) (x * 8192 % 4294967296) := rfl
theorem rU_22 (x : Int) : rU x 22 = bits BinOp.or IntKind.u32 (x / 4194304) (x * 1024 % 4294967296) := rfl
theorem rU_25 (x : Int) : rU x 25 = bits BinOp.or IntKind.u32 (x / 33554432) (x * 128 % 4294967296) := rfl
theorem turned_2 (x : Int) (w : World) : Calls Try.prog 54 #[.int .u32 x, .int .i64 2] w fun e w' => e = .returned (.int .u32 (rU x 2)) ∧ w = w' := by
  refine calls_of_wpQ Try.func54 rfl ?_
  intro Q hQ
  simp only [Try.ntmps54, List.size_toArray, List.length_cons, List.length_nil, Nat.reduceAdd, Nat.reduceSub, Array.replicate_succ, Array.replicate_zero, List.push_toArray, List.append_toArray, List.nil_append, List.cons_append]
  go_wp2
  refine ends_ret hQ (results_tmp rfl _ _ _) rfl ?_
  exact ⟨ret_int (rU_2 x).symm, rfl⟩
theorem turned_6 (x : Int) (w : World) : Calls Try.prog 54 #[.int .u32 x, .int .i64 6] w fun e w' => e = .returned (.int .u32 (rU x 6)) ∧ w = w' := by
  refine calls_of_wpQ Try.func54 rfl ?_
  intro Q hQ
  simp only [Try.ntmps54, List.size_toArray, List.length_cons, List.length_nil, Nat.reduceAdd, Nat.reduceSub, Array.replicate_succ, Array.replicate_zero, List.push_toArray, List.append_toArray, List.nil_append, List.cons_append]
  go_wp2
  refine ends_ret hQ (results_tmp rfl _ _ _) rfl ?_
  exact ⟨ret_int (rU_6 x).symm, rfl⟩
theorem turned_7 (x : Int) (w : World) : Calls Try.prog 54 #[.int .u32 x, .int .i64 7] w fun e w' => e = .returned (.int .u32 (rU x 7)) ∧ w = w' := by
  refine calls_of_wpQ Try.func54 rfl ?_
  intro Q hQ
  simp only [Try.ntmps54, List.size_toArray, List.length_cons, List.length_nil, Nat.reduceAdd, Nat.reduceSub, Array.replicate_succ, Array.replicate_zero, List.push_toArray, List.append_toArray, List.nil_append, List.cons_append]
  go_wp2
  refine ends_ret hQ (results_tmp rfl _ _ _) rfl ?_
  exact ⟨ret_int (rU_7 x).symm, rfl⟩
theorem turned_11 (x : Int) (w : World) : Calls Try.prog 54 #[.int .u32 x, .int .i64 11] w fun e w' => e = .returned (.int .u32 (rU x 11)) ∧ w = w' := by
  refine calls_of_wpQ Try.func54 rfl ?_
  intro Q hQ
  simp only [Try.ntmps54, List.size_toArray, List.length_cons, List.length_nil, Nat.reduceAdd, Nat.reduceSub, Array.replicate_succ, Array.replicate_zero, List.push_toArray, List.append_toArray, List.nil_append, List.cons_append]
  go_wp2
  refine ends_ret hQ (results_tmp rfl _ _ _) rfl ?_
  exact ⟨ret_int (rU_11 x).symm, rfl⟩
theorem turned_13 (x : Int) (w : World) : Calls Try.prog 54 #[.int .u32 x, .int .i64 13] w fun e w' => e = .returned (.int .u32 (rU x 13)) ∧ w = w' := by
  refine calls_of_wpQ Try.func54 rfl ?_
  intro Q hQ
  simp only [Try.ntmps54, List.size_toArray, List.length_cons, List.length_nil, Nat.reduceAdd, Nat.reduceSub, Array.replicate_succ, Array.replicate_zero, List.push_toArray, List.append_toArray, List.nil_append, List.cons_append]
  go_wp2
  refine ends_ret hQ (results_tmp rfl _ _ _) rfl ?_
  exact ⟨ret_int (rU_13 x).symm, rfl⟩
theorem turned_17 (x : Int) (w : World) : Calls Try.prog 54 #[.int .u32 x, .int .i64 17] w fun e w' => e = .returned (.int .u32 (rU x 17)) ∧ w = w' := by
  refine calls_of_wpQ Try.func54 rfl ?_
  intro Q hQ
  simp only [Try.ntmps54, List.size_toArray, List.length_cons, List.length_nil, Nat.reduceAdd, Nat.reduceSub, Array.replicate_succ, Array.replicate_zero, List.push_toArray, List.append_toArray, List.nil_append, List.cons_append]
  go_wp2
  refine ends_ret hQ (results_tmp rfl _ _ _) rfl ?_
  exact ⟨ret_int (rU_17 x).symm, rfl⟩
theorem turned_18 (x : Int) (w : World) : Calls Try.prog 54 #[.int .u32 x, .int .i64 18] w fun e w' => e = .returned (.int .u32 (rU x 18)) ∧ w = w' := by
  refine calls_of_wpQ Try.func54 rfl ?_
  intro Q hQ
  simp only [Try.ntmps54, List.size_toArray, List.length_cons, List.length_nil, Nat.reduceAdd, Nat.reduceSub, Array.replicate_succ, Array.replicate_zero, List.push_toArray, List.append_toArray, List.nil_append, List.cons_append]
  go_wp2
  refine ends_ret hQ (results_tmp rfl _ _ _) rfl ?_
  exact ⟨ret_int (rU_18 x).symm, rfl⟩
theorem turned_19 (x : Int) (w : World) : Calls Try.prog 54 #[.int .u32 x, .int .i64 19] w fun e w' => e = .returned (.int .u32 (rU x 19)) ∧ w = w' := by
  refine calls_of_wpQ Try.func54 rfl ?_
  intro Q hQ
  simp only [Try.ntmps54, List.size_toArray, List.length_cons, List.length_nil, Nat.reduceAdd, Nat.reduceSub, Array.replicate_succ, Array.replicate_zero, List.push_toArray, List.append_toArray, List.nil_append, List.cons_append]
  go_wp2
  refine ends_ret hQ (results_tmp rfl _ _ _) rfl ?_
  exact ⟨ret_int (rU_19 x).symm, rfl⟩
theorem turned_22 (x : Int) (w : World) : Calls Try.prog 54 #[.int .u32 x, .int .i64 22] w fun e w' => e = .returned (.int .u32 (rU x 22)) ∧ w = w' := by
  refine calls_of_wpQ Try.func54 rfl ?_
  intro Q hQ
  simp only [Try.ntmps54, List.size_toArray, List.length_cons, List.length_nil, Nat.reduceAdd, Nat.reduceSub, Array.replicate_succ, Array.replicate_zero, List.push_toArray, List.append_toArray, List.nil_append, List.cons_append]
  go_wp2
  refine ends_ret hQ (results_tmp rfl _ _ _) rfl ?_
  exact ⟨ret_int (rU_22 x).symm, rfl⟩
theorem turned_25 (x : Int) (w : World) : Calls Try.prog 54 #[.int .u32 x, .int .i64 25] w fun e w' => e = .returned (.int .u32 (rU x 25)) ∧ w = w' := by
  refine calls_of_wpQ Try.func54 rfl ?_
  intro Q hQ
  simp only [Try.ntmps54, List.size_toArray, List.length_cons, List.length_nil, Nat.reduceAdd, Nat.reduceSub, Array.replicate_succ, Array.replicate_zero, List.push_toArray, List.append_toArray, List.nil_append, List.cons_append]
  go_wp2
  refine ends_ret hQ (results_tmp rfl _ _ _) rfl ?_
  exact ⟨ret_int (rU_25 x).symm, rfl⟩
theorem Rot_2 (x : Int) (w : World) : Calls Try.prog 52 #[.int .u32 x, .int .i64 (-2)] w fun e w' => e = .returned (.int .u32 (rU x 2)) ∧ w = w' := by
  have hk : bits BinOp.and IntKind.u64 (IntKind.u64.wrap (-2)) 31 = 30 := by decide +kernel
  refine calls_of_wpQ Try.func52 rfl ?_
  intro Q hQ
  simp only [Try.ntmps52, List.size_toArray, List.length_cons, List.length_nil, Nat.reduceAdd, Nat.reduceSub, Array.replicate_succ, Array.replicate_zero, List.push_toArray, List.append_toArray, List.nil_append, List.cons_append]
  go_wp2
  refine ends_ret hQ (results_tmp rfl _ _ _) rfl ?_
  exact ⟨ret_int ((or_comm_ _ _).trans (rU_2 x).symm), rfl⟩
theorem blk1_2 (x : Int) (w : World) : Calls Try.prog 51 #[.int .u32 x, .int .i64 2] w fun e w' => e = .returned (.int .u32 (rU x 2)) ∧ w = w' := by
  refine calls_of_wpQ Try.func51 rfl ?_
  intro Q hQ
  simp only [Try.ntmps51, List.size_toArray, List.length_cons, List.length_nil, Nat.reduceAdd, Nat.reduceSub, Array.replicate_succ, Array.replicate_zero, List.push_toArray, List.append_toArray, List.nil_append, List.cons_append]
  go_wp2_with fail
  refine (Rot_2 x _).mono ?_
  rintro e w1 ⟨rfl, rfl⟩
  go_wp2
  refine ends_ret hQ (results_tmp rfl _ _ _) rfl ?_
  exact ⟨rfl, rfl⟩
theorem still_2 (x : Int) (w : World) : Calls Try.prog 51 #[.int .u32 x, .int .i64 2] w fun e w' => e = .returned (.int .u32 (rU x 2)) ∧ w' = w := (blk1_2 x w).mono fun _ _ h => ⟨h.1, h.2.symm⟩
theorem Rot_6 (x : Int) (w : World) : Calls Try.prog 52 #[.int .u32 x, .int .i64 (-6)] w fun e w' => e = .returned (.int .u32 (rU x 6)) ∧ w = w' := by
  have hk : bits BinOp.and IntKind.u64 (IntKind.u64.wrap (-6)) 31 = 26 := by decide +kernel
  refine calls_of_wpQ Try.func52 rfl ?_
  intro Q hQ
  simp only [Try.ntmps52, List.size_toArray, List.length_cons, List.length_nil, Nat.reduceAdd, Nat.reduceSub, Array.replicate_succ, Array.replicate_zero, List.push_toArray, List.append_toArray, List.nil_append, List.cons_append]
  go_wp2
  refine ends_ret hQ (results_tmp rfl _ _ _) rfl ?_
  exact ⟨ret_int ((or_comm_ _ _).trans (rU_6 x).symm), rfl⟩
theorem blk1_6 (x : Int) (w : World) : Calls Try.prog 51 #[.int .u32 x, .int .i64 6] w fun e w' => e = .returned (.int .u32 (rU x 6)) ∧ w = w' := by
  refine calls_of_wpQ Try.func51 rfl ?_
  intro Q hQ
  simp only [Try.ntmps51, List.size_toArray, List.length_cons, List.length_nil, Nat.reduceAdd, Nat.reduceSub, Array.replicate_succ, Array.replicate_zero, List.push_toArray, List.append_toArray, List.nil_append, List.cons_append]
  go_wp2_with fail
  refine (Rot_6 x _).mono ?_
  rintro e w1 ⟨rfl, rfl⟩
  go_wp2
  refine ends_ret hQ (results_tmp rfl _ _ _) rfl ?_
  exact ⟨rfl, rfl⟩
theorem still_6 (x : Int) (w : World) : Calls Try.prog 51 #[.int .u32 x, .int .i64 6] w fun e w' => e = .returned (.int .u32 (rU x 6)) ∧ w' = w := (blk1_6 x w).mono fun _ _ h => ⟨h.1, h.2.symm⟩
theorem Rot_7 (x : Int) (w : World) : Calls Try.prog 52 #[.int .u32 x, .int .i64 (-7)] w fun e w' => e = .returned (.int .u32 (rU x 7)) ∧ w = w' := by
  have hk : bits BinOp.and IntKind.u64 (IntKind.u64.wrap (-7)) 31 = 25 := by decide +kernel
  refine calls_of_wpQ Try.func52 rfl ?_
  intro Q hQ
  simp only [Try.ntmps52, List.size_toArray, List.length_cons, List.length_nil, Nat.reduceAdd, Nat.reduceSub, Array.replicate_succ, Array.replicate_zero, List.push_toArray, List.append_toArray, List.nil_append, List.cons_append]
  go_wp2
  refine ends_ret hQ (results_tmp rfl _ _ _) rfl ?_
  exact ⟨ret_int ((or_comm_ _ _).trans (rU_7 x).symm), rfl⟩
theorem blk1_7 (x : Int) (w : World) : Calls Try.prog 51 #[.int .u32 x, .int .i64 7] w fun e w' => e = .returned (.int .u32 (rU x 7)) ∧ w = w' := by
  refine calls_of_wpQ Try.func51 rfl ?_
  intro Q hQ
  simp only [Try.ntmps51, List.size_toArray, List.length_cons, List.length_nil, Nat.reduceAdd, Nat.reduceSub, Array.replicate_succ, Array.replicate_zero, List.push_toArray, List.append_toArray, List.nil_append, List.cons_append]
  go_wp2_with fail
  refine (Rot_7 x _).mono ?_
  rintro e w1 ⟨rfl, rfl⟩
  go_wp2
  refine ends_ret hQ (results_tmp rfl _ _ _) rfl ?_
  exact ⟨rfl, rfl⟩
theorem still_7 (x : Int) (w : World) : Calls Try.prog 51 #[.int .u32 x, .int .i64 7] w fun e w' => e = .returned (.int .u32 (rU x 7)) ∧ w' = w := (blk1_7 x w).mono fun _ _ h => ⟨h.1, h.2.symm⟩
theorem Rot_11 (x : Int) (w : World) : Calls Try.prog 52 #[.int .u32 x, .int .i64 (-11)] w fun e w' => e = .returned (.int .u32 (rU x 11)) ∧ w = w' := by
  have hk : bits BinOp.and IntKind.u64 (IntKind.u64.wrap (-11)) 31 = 21 := by decide +kernel
  refine calls_of_wpQ Try.func52 rfl ?_
  intro Q hQ
  simp only [Try.ntmps52, List.size_toArray, List.length_cons, List.length_nil, Nat.reduceAdd, Nat.reduceSub, Array.replicate_succ, Array.replicate_zero, List.push_toArray, List.append_toArray, List.nil_append, List.cons_append]
  go_wp2
  refine ends_ret hQ (results_tmp rfl _ _ _) rfl ?_
  exact ⟨ret_int ((or_comm_ _ _).trans (rU_11 x).symm), rfl⟩
theorem blk1_11 (x : Int) (w : World) : Calls Try.prog 51 #[.int .u32 x, .int .i64 11] w fun e w' => e = .returned (.int .u32 (rU x 11)) ∧ w = w' := by
  refine calls_of_wpQ Try.func51 rfl ?_
  intro Q hQ
  simp only [Try.ntmps51, List.size_toArray, List.length_cons, List.length_nil, Nat.reduceAdd, Nat.reduceSub, Array.replicate_succ, Array.replicate_zero, List.push_toArray, List.append_toArray, List.nil_append, List.cons_append]
  go_wp2_with fail
  refine (Rot_11 x _).mono ?_
  rintro e w1 ⟨rfl, rfl⟩
  go_wp2
  refine ends_ret hQ (results_tmp rfl _ _ _) rfl ?_
  exact ⟨rfl, rfl⟩
theorem still_11 (x : Int) (w : World) : Calls Try.prog 51 #[.int .u32 x, .int .i64 11] w fun e w' => e = .returned (.int .u32 (rU x 11)) ∧ w' = w := (blk1_11 x w).mono fun _ _ h => ⟨h.1, h.2.symm⟩
theorem Rot_13 (x : Int) (w : World) : Calls Try.prog 52 #[.int .u32 x, .int .i64 (-13)] w fun e w' => e = .returned (.int .u32 (rU x 13)) ∧ w = w' := by
  have hk : bits BinOp.and IntKind.u64 (IntKind.u64.wrap (-13)) 31 = 19 := by decide +kernel
  refine calls_of_wpQ Try.func52 rfl ?_
  intro Q hQ
  simp only [Try.ntmps52, List.size_toArray, List.length_cons, List.length_nil, Nat.reduceAdd, Nat.reduceSub, Array.replicate_succ, Array.replicate_zero, List.push_toArray, List.append_toArray, List.nil_append, List.cons_append]
  go_wp2
  refine ends_ret hQ (results_tmp rfl _ _ _) rfl ?_
  exact ⟨ret_int ((or_comm_ _ _).trans (rU_13 x).symm), rfl⟩
theorem blk1_13 (x : Int) (w : World) : Calls Try.prog 51 #[.int .u32 x, .int .i64 13] w fun e w' => e = .returned (.int .u32 (rU x 13)) ∧ w = w' := by
  refine calls_of_wpQ Try.func51 rfl ?_
  intro Q hQ
  simp only [Try.ntmps51, List.size_toArray, List.length_cons, List.length_nil, Nat.reduceAdd, Nat.reduceSub, Array.replicate_succ, Array.replicate_zero, List.push_toArray, List.append_toArray, List.nil_append, List.cons_append]
  go_wp2_with fail
  refine (Rot_13 x _).mono ?_
  rintro e w1 ⟨rfl, rfl⟩
  go_wp2
  refine ends_ret hQ (results_tmp rfl _ _ _) rfl ?_
  exact ⟨rfl, rfl⟩
theorem still_13 (x : Int) (w : World) : Calls Try.prog 51 #[.int .u32 x, .int .i64 13] w fun e w' => e = .returned (.int .u32 (rU x 13)) ∧ w' = w := (blk1_13 x w).mono fun _ _ h => ⟨h.1, h.2.symm⟩
theorem Rot_17 (x : Int) (w : World) : Calls Try.prog 52 #[.int .u32 x, .int .i64 (-17)] w fun e w' => e = .returned (.int .u32 (rU x 17)) ∧ w = w' := by
  have hk : bits BinOp.and IntKind.u64 (IntKind.u64.wrap (-17)) 31 = 15 := by decide +kernel
  refine calls_of_wpQ Try.func52 rfl ?_
  intro Q hQ
  simp only [Try.ntmps52, List.size_toArray, List.length_cons, List.length_nil, Nat.reduceAdd, Nat.reduceSub, Array.replicate_succ, Array.replicate_zero, List.push_toArray, List.append_toArray, List.nil_append, List.cons_append]
  go_wp2
  refine ends_ret hQ (results_tmp rfl _ _ _) rfl ?_
  exact ⟨ret_int ((or_comm_ _ _).trans (rU_17 x).symm), rfl⟩
theorem blk1_17 (x : Int) (w : World) : Calls Try.prog 51 #[.int .u32 x, .int .i64 17] w fun e w' => e = .returned (.int .u32 (rU x 17)) ∧ w = w' := by
  refine calls_of_wpQ Try.func51 rfl ?_
  intro Q hQ
  simp only [Try.ntmps51, List.size_toArray, List.length_cons, List.length_nil, Nat.reduceAdd, Nat.reduceSub, Array.replicate_succ, Array.replicate_zero, List.push_toArray, List.append_toArray, List.nil_append, List.cons_append]
  go_wp2_with fail
  refine (Rot_17 x _).mono ?_
  rintro e w1 ⟨rfl, rfl⟩
  go_wp2
  refine ends_ret hQ (results_tmp rfl _ _ _) rfl ?_
  exact ⟨rfl, rfl⟩
theorem still_17 (x : Int) (w : World) : Calls Try.prog 51 #[.int .u32 x, .int .i64 17] w fun e w' => e = .returned (.int .u32 (rU x 17)) ∧ w' = w := (blk1_17 x w).mono fun _ _ h => ⟨h.1, h.2.symm⟩
theorem Rot_18 (x : Int) (w : World) : Calls Try.prog 52 #[.int .u32 x, .int .i64 (-18)] w fun e w' => e = .returned (.int .u32 (rU x 18)) ∧ w = w' := by
  have hk : bits BinOp.and IntKind.u64 (IntKind.u64.wrap (-18)) 31 = 14 := by decide +kernel
  refine calls_of_wpQ Try.func52 rfl ?_
  intro Q hQ
  simp only [Try.ntmps52, List.size_toArray, List.length_cons, List.length_nil, Nat.reduceAdd, Nat.reduceSub, Array.replicate_succ, Array.replicate_zero, List.push_toArray, List.append_toArray, List.nil_append, List.cons_append]
  go_wp2
  refine ends_ret hQ (results_tmp rfl _ _ _) rfl ?_
  exact ⟨ret_int ((or_comm_ _ _).trans (rU_18 x).symm), rfl⟩
theorem blk1_18 (x : Int) (w : World) : Calls Try.prog 51 #[.int .u32 x, .int .i64 18] w fun e w' => e = .returned (.int .u32 (rU x 18)) ∧ w = w' := by
  refine calls_of_wpQ Try.func51 rfl ?_
  intro Q hQ
  simp only [Try.ntmps51, List.size_toArray, List.length_cons, List.length_nil, Nat.reduceAdd, Nat.reduceSub, Array.replicate_succ, Array.replicate_zero, List.push_toArray, List.append_toArray, List.nil_append, List.cons_append]
  go_wp2_with fail
  refine (Rot_18 x _).mono ?_
  rintro e w1 ⟨rfl, rfl⟩
  go_wp2
  refine ends_ret hQ (results_tmp rfl _ _ _) rfl ?_
  exact ⟨rfl, rfl⟩
theorem still_18 (x : Int) (w : World) : Calls Try.prog 51 #[.int .u32 x, .int .i64 18] w fun e w' => e = .returned (.int .u32 (rU x 18)) ∧ w' = w := (blk1_18 x w).mono fun _ _ h => ⟨h.1, h.2.symm⟩
theorem Rot_19 (x : Int) (w : World) : Calls Try.prog 52 #[.int .u32 x, .int .i64 (-19)] w fun e w' => e = .returned (.int .u32 (rU x 19)) ∧ w = w' := by
  have hk : bits BinOp.and IntKind.u64 (IntKind.u64.wrap (-19)) 31 = 13 := by decide +kernel
  refine calls_of_wpQ Try.func52 rfl ?_
  intro Q hQ
  simp only [Try.ntmps52, List.size_toArray, List.length_cons, List.length_nil, Nat.reduceAdd, Nat.reduceSub, Array.replicate_succ, Array.replicate_zero, List.push_toArray, List.append_toArray, List.nil_append, List.cons_append]
  go_wp2
  refine ends_ret hQ (results_tmp rfl _ _ _) rfl ?_
  exact ⟨ret_int ((or_comm_ _ _).trans (rU_19 x).symm), rfl⟩
theorem blk1_19 (x : Int) (w : World) : Calls Try.prog 51 #[.int .u32 x, .int .i64 19] w fun e w' => e = .returned (.int .u32 (rU x 19)) ∧ w = w' := by
  refine calls_of_wpQ Try.func51 rfl ?_
  intro Q hQ
  simp only [Try.ntmps51, List.size_toArray, List.length_cons, List.length_nil, Nat.reduceAdd, Nat.reduceSub, Array.replicate_succ, Array.replicate_zero, List.push_toArray, List.append_toArray, List.nil_append, List.cons_append]
  go_wp2_with fail
  refine (Rot_19 x _).mono ?_
  rintro e w1 ⟨rfl, rfl⟩
  go_wp2
  refine ends_ret hQ (results_tmp rfl _ _ _) rfl ?_
  exact ⟨rfl, rfl⟩
theorem still_19 (x : Int) (w : World) : Calls Try.prog 51 #[.int .u32 x, .int .i64 19] w fun e w' => e = .returned (.int .u32 (rU x 19)) ∧ w' = w := (blk1_19 x w).mono fun _ _ h => ⟨h.1, h.2.symm⟩
theorem Rot_22 (x : Int) (w : World) : Calls Try.prog 52 #[.int .u32 x, .int .i64 (-22)] w fun e w' => e = .returned (.int .u32 (rU x 22)) ∧ w = w' := by
  have hk : bits BinOp.and IntKind.u64 (IntKind.u64.wrap (-22)) 31 = 10 := by decide +kernel
  refine calls_of_wpQ Try.func52 rfl ?_
  intro Q hQ
  simp only [Try.ntmps52, List.size_toArray, List.length_cons, List.length_nil, Nat.reduceAdd, Nat.reduceSub, Array.replicate_succ, Array.replicate_zero, List.push_toArray, List.append_toArray, List.nil_append, List.cons_append]
  go_wp2
  refine ends_ret hQ (results_tmp rfl _ _ _) rfl ?_
  exact ⟨ret_int ((or_comm_ _ _).trans (rU_22 x).symm), rfl⟩
theorem blk1_22 (x : Int) (w : World) : Calls Try.prog 51 #[.int .u32 x, .int .i64 22] w fun e w' => e = .returned (.int .u32 (rU x 22)) ∧ w = w' := by
  refine calls_of_wpQ Try.func51 rfl ?_
  intro Q hQ
  simp only [Try.ntmps51, List.size_toArray, List.length_cons, List.length_nil, Nat.reduceAdd, Nat.reduceSub, Array.replicate_succ, Array.replicate_zero, List.push_toArray, List.append_toArray, List.nil_append, List.cons_append]
  go_wp2_with fail
  refine (Rot_22 x _).mono ?_
  rintro e w1 ⟨rfl, rfl⟩
  go_wp2
  refine ends_ret hQ (results_tmp rfl _ _ _) rfl ?_
  exact ⟨rfl, rfl⟩
theorem still_22 (x : Int) (w : World) : Calls Try.prog 51 #[.int .u32 x, .int .i64 22] w fun e w' => e = .returned (.int .u32 (rU x 22)) ∧ w' = w := (blk1_22 x w).mono fun _ _ h => ⟨h.1, h.2.symm⟩
theorem Rot_25 (x : Int) (w : World) : Calls Try.prog 52 #[.int .u32 x, .int .i64 (-25)] w fun e w' => e = .returned (.int .u32 (rU x 25)) ∧ w = w' := by
  have hk : bits BinOp.and IntKind.u64 (IntKind.u64.wrap (-25)) 31 = 7 := by decide +kernel
  refine calls_of_wpQ Try.func52 rfl ?_
  intro Q hQ
  simp only [Try.ntmps52, List.size_toArray, List.length_cons, List.length_nil, Nat.reduceAdd, Nat.reduceSub, Array.replicate_succ, Array.replicate_zero, List.push_toArray, List.append_toArray, List.nil_append, List.cons_append]
  go_wp2
  refine ends_ret hQ (results_tmp rfl _ _ _) rfl ?_
  exact ⟨ret_int ((or_comm_ _ _).trans (rU_25 x).symm), rfl⟩
theorem blk1_25 (x : Int) (w : World) : Calls Try.prog 51 #[.int .u32 x, .int .i64 25] w fun e w' => e = .returned (.int .u32 (rU x 25)) ∧ w = w' := by
  refine calls_of_wpQ Try.func51 rfl ?_
  intro Q hQ
  simp only [Try.ntmps51, List.size_toArray, List.length_cons, List.length_nil, Nat.reduceAdd, Nat.reduceSub, Array.replicate_succ, Array.replicate_zero, List.push_toArray, List.append_toArray, List.nil_append, List.cons_append]
  go_wp2_with fail
  refine (Rot_25 x _).mono ?_
  rintro e w1 ⟨rfl, rfl⟩
  go_wp2
  refine ends_ret hQ (results_tmp rfl _ _ _) rfl ?_
  exact ⟨rfl, rfl⟩
theorem still_25 (x : Int) (w : World) : Calls Try.prog 51 #[.int .u32 x, .int .i64 25] w fun e w' => e = .returned (.int .u32 (rU x 25)) ∧ w' = w := (blk1_25 x w).mono fun _ _ h => ⟨h.1, h.2.symm⟩
end Go.Proofs.Ytngaeencnklbdaa
