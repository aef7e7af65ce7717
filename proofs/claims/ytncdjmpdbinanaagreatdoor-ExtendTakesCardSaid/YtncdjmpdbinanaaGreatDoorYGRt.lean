/-
  WHAT IS PROVED HERE: what the reference's Draw, Later, Voters and End hand back. Condition: the slices are of at most 2^43 elements; of Later and End: the node may be.
  WHAT IS PROVED HERE: what the reference's To and Follow hand back. Condition: the message's slices are of at most 2^47 elements.
-/
import Derived.Test.YtncdjmpdbinanaaGreatDoorYGStd
import Derived.Test.YtncdjmpdbinanaaGreatDoorYGJrn
import Derived.Test.YtncdjmpdbinanaaGreatDoorYGRy4
import Derived.Test.YtncdjmpdbinanaaGreatDoorYGNd
namespace Go.Proofs.YtncdjmpdbinanaaGreatDoor
open Go.RowKit

theorem Draw_any (d : Int) (w : World) : Calls Tryz.prog 106 #[.int .i64 d] w fun e w' => e = .returned (.int .i64 (min (max d 0) 1048576)) ∧ w = w' := by
  by_cases h1 : d < 0
  · go_enter Tryz.func106, Tryz.ntmps106
    go_wp2
    go_ret
    exact ⟨ret_int (by omega), rfl⟩
  by_cases h2 : 1048576 < d
  · go_enter Tryz.func106, Tryz.ntmps106
    go_wp2
    go_ret
    exact ⟨ret_int (by omega), rfl⟩
  · go_enter Tryz.func106, Tryz.ntmps106
    go_wp2
    go_ret
    exact ⟨ret_int (by omega), rfl⟩
end Go.Proofs.YtncdjmpdbinanaaGreatDoor
namespace Go.Proofs.YtncdjmpdbinanaaGreatDoor
open Go.RowKit

/-- is the message of this kind, for this node, and may it be? -/
def toM (N : Nd) (M : Ms) (k : Int) : Bool := mayM M && (M.to == N.id && M.kind == k)
set_option profiler true in
set_option maxRecDepth 100000 in
set_option maxHeartbeats 1600000 in
theorem RTo_any (N : Nd) (a : NdA) (M : Ms) (b : MsA) (k : Int) (w : World) {B : Nat} (hM : MsOk w B M b) :
    Calls Tryz.prog 65 #[nodeV N a, msgV M b, .int .i64 k] w fun e w' => e = .returned (.bool (toM N M k)) ∧ Below w.heap.size w w' := by
  obtain ⟨zm, hzm⟩ : ∃ x, mayM M = x := ⟨_, rfl⟩
  have hEM := fun (w : World) (h : MsOk w B M b) => NMay_any M b w h
  rw [hzm] at hEM
  unfold toM
  rw [hzm]
  clear hzm
  unfold nodeV
  unfold msgV at hEM ⊢
  obtain ⟨w0, hw0⟩ : ∃ x, ((w.alloc (.cells (ndC N a) 30)).alloc (.cells (msC M b) 32)) = x := ⟨_, rfl⟩
  have hB : Hid (Bxs w.heap.size w0 [⟨w.heap.size + 1, 32, msC M b⟩, ⟨w.heap.size, 30, ndC N a⟩]) := by
    rw [← hw0]
    exact (((Bxs.nil w.heap.size w).add_ rfl (by omega) 30 (ndC N a)).add_ (by simp) (by omega) 32 (msC M b))
  have q0 : Below w.heap.size w w0 := by rw [← hw0]; go_grown
  have z0 := q0.size
  dsimp only [ndC, msC, zeroN, nilA, zeroM, nilMA] at hw0
  refine calls_of_wpQ Tryz.func65 rfl ?_
  intro Q hQ
  simp only [Tryz.ntmps65, List.size_toArray, List.length_cons, List.length_nil, Nat.reduceAdd, Nat.reduceSub, Array.replicate_succ, Array.replicate_zero, List.push_toArray, List.append_toArray, List.nil_append, List.cons_append]
  go_upto_region 1 with fail
  try rw [hw0]
  clear hw0
  have lX := blk14c (hB.out.at_ 1 rfl)
  have lM := blk11v (hB.out.at_ 0 rfl)
  go_wp2_with fail
  clear lX lM
  refine (hEM _ (hM.to q0)).mono ?_
  rintro e w1 ⟨rfl, hb1⟩
  have q1 := (after (w := w) hb1 q0).1
  have z1 := q1.size
  replace hB := hid_mk (hB.out.keep hb1)
  clear hb1 q0 z0
  cases zm
  case false =>
    have lX := blk14c (hB.out.at_ 1 rfl)
    have lM := blk11v (hB.out.at_ 0 rfl)
    go_wp2
    refine ends_ret hQ (results_tmp rfl _ _ _) rfl ?_
    exact ⟨rfl, q1⟩
  by_cases g1 : M.to = N.id
  case neg =>
    have hg1 : (M.to == N.id) = false := by simpa using g1
    have lX := blk14c (hB.out.at_ 1 rfl)
    have lM := blk11v (hB.out.at_ 0 rfl)
    go_wp2
    refine ends_ret hQ (results_tmp rfl _ _ _) rfl ?_
    exact ⟨by rw [hg1]; rfl, q1⟩
  have hg1 : (M.to == N.id) = true := by simpa using g1
  have lX := blk14c (hB.out.at_ 1 rfl)
  have lM := blk11v (hB.out.at_ 0 rfl)
  go_wp2
  refine ends_ret hQ (results_tmp rfl _ _ _) rfl ?_
  exact ⟨by rw [hg1]; rfl, q1⟩
set_option profiler true in
set_option maxRecDepth 100000 in
set_option maxHeartbeats 3200000 in
theorem RFollow_any (N : Nd) (a : NdA) (fr d : Int) (w : World) :
    Calls Tryz.prog 67 #[nodeV N a, .int .i64 fr, .int .i64 d] w fun e w' => e = .returned (nodeV (followN N fr d) ⟨a.R, a.V, ⟨none, 0, 0⟩, ⟨none, 0, 0⟩⟩) ∧ Below w.heap.size w w' := by
  have hD := fun (w : World) => Draw_any d w
  unfold followN
  obtain ⟨dd, hdd⟩ : ∃ x, min (max d 0) 1048576 = x := ⟨_, rfl⟩
  rw [hdd] at hD ⊢
  clear hdd
  unfold nodeV
  obtain ⟨w0, hw0⟩ : ∃ x, ((w.alloc (.cells (ndC N a) 30)).alloc (.cells (ndC zeroN nilA) 30)) = x := ⟨_, rfl⟩
  have hB : Hid (Bxs w.heap.size w0 [⟨w.heap.size + 1, 30, ndC zeroN nilA⟩, ⟨w.heap.size, 30, ndC N a⟩]) := by
    rw [← hw0]
    exact (((Bxs.nil w.heap.size w).add_ rfl (by omega) 30 (ndC N a)).add_ (by simp) (by omega) 30 (ndC zeroN nilA))
  have q0 : Below w.heap.size w w0 := by rw [← hw0]; go_grown
  have z0 := q0.size
  dsimp only [ndC, msC, zeroN, nilA, zeroM, nilMA] at hw0
  refine calls_of_wpQ Tryz.func67 rfl ?_
  intro Q hQ
  simp only [Tryz.ntmps67, List.size_toArray, List.length_cons, List.length_nil, Nat.reduceAdd, Nat.reduceSub, Array.replicate_succ, Array.replicate_zero, List.push_toArray, List.append_toArray, List.nil_append, List.cons_append]
  go_upto_region 1 with fail
  try rw [hw0]
  clear hw0
  refine regm (fun w' => AtN w' w.heap.size N a) 10 11 [(0, 0), (1, 1), (0, 0), (4, 4), (0, 0), (0, 0), (32, 32), (0, 0), (128, 128), (346, 346), (1023, 512)] (by exact (hB.out.at_ 1 rfl).atN) (fun hS0 hR => ?_)
  replace hB := hid_mk hB.out.drew
  have qd : Below w.heap.size w w0.drew := by go_grown
  obtain ⟨wd, hwd⟩ : ∃ x, w0.drew = x := ⟨_, rfl⟩
  rw [hwd] at hS0 hB  qd ⊢
  clear hwd q0 z0
  have zd := qd.size
  refine tkn (i := 0) hR hS0 (h := ?_)
  refine tkn (i := 1) hR hS0 (h := ?_)
  refine tkn (i := 2) hR hS0 (h := ?_)
  refine tkn (i := 3) hR hS0 (h := ?_)
  refine tkn (i := 4) hR hS0 (h := ?_)
  simp only [Act.put]
  refine tkn (i := 5) hR hS0 (h := ?_)
  refine tkn (i := 7) hR hS0 (h := ?_)
  refine tkn (i := 8) hR hS0 (h := ?_)
  have lY := blk14f (hB.out.at_ 0 rfl)
  refine onem (i := 6) hR (h := fun K hK => ?_)
  go_simp
  refine (hD _).mono ?_
  rintro e w2 ⟨rfl, rfl⟩
  have hS1 := (hB.out.at_ 1 rfl).atN
  refine hK.out _ _ (fun _ => hS1) ?_
  clear hK K hS0
  have hS0 := hS1
  clear hS1
  refine tkn (i := 9) hR hS0 (h := ?_)
  refine onem (i := 10) hR (h := fun K hK => ?_)
  go_simp
  refine hK.out _ _ (fun h => absurd h (by decide)) ?_
  clear hK K
  refine donem hR (h := ?_)
  try simp only [Act.put]
  go_wp2
  have kf := setN_blk (N := ⟨N.id, N.h, 0, fr, dd, N.commit, [], []⟩) (a := ⟨a.R, a.V, ⟨none, 0, 0⟩, ⟨none, 0, 0⟩⟩) (hB.out.at_ 0 rfl)
  unfold setN set14 at kf
  have rs := blk14c kf
  dsimp only at rs
  refine ends_ret hQ (v := .agg (ndC ⟨N.id, N.h, 0, fr, dd, N.commit, [], []⟩ ⟨a.R, a.V, ⟨none, 0, 0⟩, ⟨none, 0, 0⟩⟩)) (by simp [results, Tryz.results67, go_sem, rs, ndC]) rfl ?_
  exact ⟨rfl, setN_below ⟨N.id, N.h, 0, fr, dd, N.commit, [], []⟩ ⟨a.R, a.V, ⟨none, 0, 0⟩, ⟨none, 0, 0⟩⟩ qd (by omega)⟩
end Go.Proofs.YtncdjmpdbinanaaGreatDoor
