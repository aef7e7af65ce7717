/-
  WHAT IS PROVED HERE: what extend.told hands back. Conditions: the slices are of at most 2^47 bytes; the library's table stands.
-/
import Derived.Test.YtncdjmpdbinanaaGreatDoorYGNd
import Derived.Test.YtncdjmpdbinanaaGreatDoorYGEl1
import Derived.Test.YtncdjmpdbinanaaGreatDoorYGMy4
namespace Go.Proofs.YtncdjmpdbinanaaGreatDoor
open Go.RowKit

/-- a message of this kind for a node that may be -/
def toldE (N : Nd) (M : Ms) (k : Int) : Bool := rightN N && (mayM M && (M.to == N.id && M.kind == k))
theorem toldC_E (N : Nd) (M : Ms) (k : Int) : toldC N M k = (toldE N M k && decide (M.term ≤ N.h.t)) := by
  unfold toldC toldE
  cases rightN N <;> cases mayM M <;> cases (M.kind == k) <;> cases (M.to == N.id) <;> simp
set_option maxRecDepth 100000 in
set_option maxHeartbeats 1600000 in
theorem ETold_any (N : Nd) (a : NdA) (M : Ms) (b : MsA) (k : Int) (w : World) {B : Nat} (hN : NdOk w B N a) (hM : MsOk w B M b) (ht : Tab w) :
    Calls Tryz.prog 92 #[nodeV N a, msgV M b, .int .i64 k] w fun e w' => e = .returned (.bool (toldE N M k)) ∧ Below w.heap.size w w' := by
  obtain ⟨zr, hzr⟩ : ∃ x, rightN N = x := ⟨_, rfl⟩
  obtain ⟨zm, hzm⟩ : ∃ x, mayM M = x := ⟨_, rfl⟩
  have hER := fun (w : World) (h : NdOk w B N a) (h2 : Tab w) => ERight_any N a w h h2
  have hEM := fun (w : World) (h : MsOk w B M b) => EMay_any M b w h
  rw [hzr] at hER
  rw [hzm] at hEM
  unfold toldE
  rw [hzr, hzm]
  clear hzr hzm
  unfold nodeV at hER ⊢
  unfold msgV at hEM ⊢
  obtain ⟨w0, hw0⟩ : ∃ x, ((w.alloc (.cells (ndC N a) 30)).alloc (.cells (msC M b) 32)) = x := ⟨_, rfl⟩
  have hB : Hid (Bxs w.heap.size w0 [⟨w.heap.size + 1, 32, msC M b⟩, ⟨w.heap.size, 30, ndC N a⟩]) := by
    rw [← hw0]
    exact (((Bxs.nil w.heap.size w).add_ rfl (by omega) 30 (ndC N a)).add_ (by simp) (by omega) 32 (msC M b))
  have q0 : Below w.heap.size w w0 := by rw [← hw0]; go_grown
  have z0 := q0.size
  dsimp only [ndC, msC, zeroN, nilA, zeroM, nilMA] at hw0
  refine calls_of_wpQ Tryz.func92 rfl ?_
  intro Q hQ
  simp only [Tryz.ntmps92, List.size_toArray, List.length_cons, List.length_nil, Nat.reduceAdd, Nat.reduceSub, Array.replicate_succ, Array.replicate_zero, List.push_toArray, List.append_toArray, List.nil_append, List.cons_append]
  go_upto_region 1 with fail
  try rw [hw0]
  clear hw0
  have lX := blk14c (hB.out.at_ 1 rfl)
  have lM := blk11v (hB.out.at_ 0 rfl)
  go_wp2_with fail
  clear lX lM
  refine (hER _ (hN.to q0) (ht.to q0)).mono ?_
  rintro e w1 ⟨rfl, hb1⟩
  have q1 := (after (w := w) hb1 q0).1
  have z1 := q1.size
  replace hB := hid_mk (hB.out.keep hb1)
  clear hb1 q0 z0
  cases zr
  case false =>
    have lX := blk14c (hB.out.at_ 1 rfl)
    have lM := blk11v (hB.out.at_ 0 rfl)
    go_wp2
    refine ends_ret hQ (results_tmp rfl _ _ _) rfl ?_
    exact ⟨rfl, q1⟩
  have lX := blk14c (hB.out.at_ 1 rfl)
  have lM := blk11v (hB.out.at_ 0 rfl)
  go_wp2_with fail
  clear lX lM
  refine (hEM _ (hM.to q1)).mono ?_
  rintro e w2 ⟨rfl, hb1⟩
  have q2 := (after (w := w) hb1 q1).1
  have z2 := q2.size
  replace hB := hid_mk (hB.out.keep hb1)
  clear hb1 q1 z1
  cases zm
  case false =>
    have lX := blk14c (hB.out.at_ 1 rfl)
    have lM := blk11v (hB.out.at_ 0 rfl)
    go_wp2
    refine ends_ret hQ (results_tmp rfl _ _ _) rfl ?_
    exact ⟨rfl, q2⟩
  by_cases g1 : M.to = N.id
  case neg =>
    have hg1 : (M.to == N.id) = false := by simpa using g1
    have lX := blk14c (hB.out.at_ 1 rfl)
    have lM := blk11v (hB.out.at_ 0 rfl)
    go_wp2
    refine ends_ret hQ (results_tmp rfl _ _ _) rfl ?_
    exact ⟨by rw [hg1]; rfl, q2⟩
  have hg1 : (M.to == N.id) = true := by simpa using g1
  have lX := blk14c (hB.out.at_ 1 rfl)
  have lM := blk11v (hB.out.at_ 0 rfl)
  go_wp2
  refine ends_ret hQ (results_tmp rfl _ _ _) rfl ?_
  exact ⟨by rw [hg1]; rfl, q2⟩
end Go.Proofs.YtncdjmpdbinanaaGreatDoor
