/-
  WHAT IS PROVED HERE: the answer to a request for a vote, as data. No condition.
  WHAT IS PROVED HERE: two lists of records, two states, two nodes, two rows of messages that are the same are alike. Condition: the slices are of at most 2^43 elements.
-/
import Derived.Test.YtncdjmpdbinanaaGreatDoorZGEl1
import Derived.Test.YtncdjmpdbinanaaGreatDoorZGMem
import Derived.Test.YtncdjmpdbinanaaGreatDoorZGJrn
import Derived.Test.YtncdjmpdbinanaaGreatDoorZGMy1
import Derived.Test.YtncdjmpdbinanaaGreatDoorZGQrm
namespace Go.Proofs.YtncdjmpdbinanaaGreatDoor
open Go.RowKit

theorem blk11v {w : World} {g : Nat} {t : TypeId} {a0 a1 a2 a3 a4 a5 a6 a7 a8 a9 a10 : Value} (h : Blk w g t #[a0, a1, a2, a3, a4, a5, a6, a7, a8, a9, a10]) :
    g < w.heap.size ∧ w.cell? ⟨g, 0, none⟩ = some a0 ∧ w.cell? ⟨g, 1, none⟩ = some a1 ∧ w.cell? ⟨g, 2, none⟩ = some a2 ∧ w.cell? ⟨g, 3, none⟩ = some a3 ∧ w.cell? ⟨g, 4, none⟩ = some a4 ∧ w.cell? ⟨g, 5, none⟩ = some a5 ∧ w.cell? ⟨g, 6, none⟩ = some a6 ∧ w.cell? ⟨g, 7, none⟩ = some a7 ∧ w.cell? ⟨g, 8, none⟩ = some a8 ∧ w.cell? ⟨g, 9, none⟩ = some a9 ∧ w.cell? ⟨g, 10, none⟩ = some a10 :=
  ⟨h.lt, h.cell 0, h.cell 1, h.cell 2, h.cell 3, h.cell 4, h.cell 5, h.cell 6, h.cell 7, h.cell 8, h.cell 9, h.cell 10⟩
theorem set14_far {w : World} {g g' : Nat} {t : TypeId} {cs : Array Value} (h : Blk w g t cs) (hg : g ≠ g') (b0 b1 b2 b3 b4 b5 b6 b7 b8 b9 b10 b11 b12 b13 : Value) : Blk (set14 w g' b0 b1 b2 b3 b4 b5 b6 b7 b8 b9 b10 b11 b12 b13) g t cs := by
  unfold set14
  exact (((((((((((((h.far (by exact hg) _).far (by exact hg) _).far (by exact hg) _).far (by exact hg) _).far (by exact hg) _).far (by exact hg) _).far (by exact hg) _).far (by exact hg) _).far (by exact hg) _).far (by exact hg) _).far (by exact hg) _).far (by exact hg) _).far (by exact hg) _).far (by exact hg) _
theorem voteS {w : World} {g h : Nat} {t t' : TypeId} {a0 a1 a2 a3 a4 a5 a6 a7 a8 a9 a10 a11 a12 a13 m1 : Value} {cs' : Array Value} (hm : cs'[1]? = some m1) (hX : Blk w g t #[a0, a1, a2, a3, a4, a5, a6, a7, a8, a9, a10, a11, a12, a13]) (hM : Blk w h t' cs') : w.cell? ⟨g, 0, none⟩ = some a0 ∧ w.cell? ⟨g, 1, none⟩ = some a1 ∧ w.cell? ⟨g, 2, none⟩ = some a2 ∧ w.cell? ⟨g, 3, none⟩ = some a3 ∧ w.cell? ⟨g, 4, none⟩ = some a4 ∧ w.cell? ⟨g, 5, none⟩ = some a5 ∧ w.cell? ⟨g, 6, none⟩ = some a6 ∧ w.cell? ⟨g, 7, none⟩ = some a7 ∧ w.cell? ⟨g, 8, none⟩ = some a8 ∧ w.cell? ⟨g, 9, none⟩ = some a9 ∧ w.cell? ⟨g, 10, none⟩ = some a10 ∧ w.cell? ⟨g, 11, none⟩ = some a11 ∧ w.cell? ⟨g, 12, none⟩ = some a12 ∧ w.cell? ⟨g, 13, none⟩ = some a13 ∧ w.cell? ⟨h, 1, none⟩ = some m1 := ⟨hX.cell 0, hX.cell 1, hX.cell 2, hX.cell 3, hX.cell 4, hX.cell 5, hX.cell 6, hX.cell 7, hX.cell 8, hX.cell 9, hX.cell 10, hX.cell 11, hX.cell 12, hX.cell 13, (hM.cell 1).trans hm⟩
/-- is the message one that asks this node for its vote, in a term that it has seen? -/
def voteP (N : Nd) (M : Ms) : Bool := rightN N && (mayM M && (M.kind == 1 && (M.to == N.id && decide (M.term ≤ N.h.t))))
/-- is the vote granted? -/
def voteG (N : Nd) (M : Ms) : Bool := M.term == N.h.t && ((N.h.v == 0 || N.h.v == M.fr) && newerJ N.h.l M.index M.lterm)
def voteN (N : Nd) (M : Ms) (d : Int) : Nd := if voteP N M && voteG N M then ⟨N.id, ⟨N.h.t, M.fr, N.h.l, N.h.s, N.h.vs⟩, N.role, N.lead, min (max d 0) 1048576, N.commit, N.got, N.ps⟩ else N
def voteL (N : Nd) (M : Ms) : List Ms := if voteP N M then [⟨2, N.id, M.fr, N.h.t, voteG N M, 0, 0, [], 0, ⟨#[]⟩, []⟩] else []
end Go.Proofs.YtncdjmpdbinanaaGreatDoor
namespace Go.Proofs.YtncdjmpdbinanaaGreatDoor
open Go.RowKit

theorem recUnderK : Tryz.prog.underlying 51 = some (.struct (Tryz.prog.fieldsOf 51)) := by kernel_rfl
theorem recHeldK : Tryz.prog.stoodInHeld 51 = false := by kernel_rfl
theorem run_neq_recK (t k : Int) (d : ByteArray) (w : World) : (binOp .neq 51 (.agg #[.int .i64 t, .int .i64 k, .string d]) (.agg #[.int .i64 t, .int .i64 k, .string d])).run Tryz.prog w = .ok (.bool false) w := by
  rw [run_neq_struct, run_equalIn_struct w 9999 51 _ _ recUnderK recHeldK]
  simp [go_sem, Tryz.underlying51]
set_option maxHeartbeats 800000 in
theorem LikeRec_same (A : Option Addr) (n c : Nat) (A' : Option Addr) (n' c' : Nat) (rs : List Rec) (w : World) {B B' : Nat} (hm : n ≤ 8796093022208) (h : Recs w B A n rs) (h' : Recs w B' A' n' rs) :
    Calls Tryz.prog 37 #[.slice A n c, .slice A' n' c'] w fun e w' => e = .returned (.bool true) ∧ Below w.heap.size w w' := by
  obtain rfl : n = n' := by rw [← h.len, ← h'.len]
  refine calls_of_wpQ Tryz.func37 rfl ?_
  intro Q hQ
  simp only [Tryz.ntmps37, List.size_toArray, List.length_cons, List.length_nil, Nat.reduceAdd, Nat.reduceSub, Array.replicate_succ, Array.replicate_zero, List.push_toArray, List.append_toArray, List.nil_append, List.cons_append]
  go_wp2
  go_loopw [13] (fun iv wr => ∃ k : Nat, iv = .int .i64 k ∧ k ≤ n ∧ Hid (Below w.heap.size w wr)) (fun iv _ => n - (intOf iv).toNat)
  case atStart => exact ⟨0, rfl, Nat.zero_le _, Below.refl _ _⟩
  case round =>
    obtain ⟨k, rfl, hk, hb⟩ := hrel
    by_cases hlt : k < n
    · obtain ⟨b, o, r, rfl, hbl, hik, c0, c1, c2⟩ := (h.to hb.out).at_ hlt
      obtain ⟨b', o', r', rfl, hbl', hik', d0, d1, d2⟩ := (h'.to hb.out).at_ hlt
      obtain rfl : r = r' := by
        have e := hik.out.symm.trans hik'.out
        injection e
      obtain ⟨rt, rk, rd⟩ := r
      dsimp only at c0 c1 c2 d0 d1 d2
      have hne := fun w => run_neq_recK rt rk rd w
      have k0 : (0 : Int) ≤ k := by omega
      have k1 : (k : Int) < n := by omega
      clear hik hik'
      go_wp2_with fail
      go_quiet (fail)
      obtain ⟨wq, hwq⟩ : ∃ u, wr.drewN nq = u := ⟨_, rfl⟩
      have hbq : Hid (Below w.heap.size w wq) := by rw [← hwq]; exact hid_mk (below_drewN hb.out _)
      rw [hwq]
      replace hwq := hid_mk hwq
      go_wp2
      go_roundw
      case rel => exact ⟨k + 1, by go_num, by omega, hbq⟩
      case measure => simp [intOf]; omega
    · go_wp2
      refine ends_ret hQ (results_tmp rfl _ _ _) rfl ?_
      exact ⟨rfl, hb.out⟩
end Go.Proofs.YtncdjmpdbinanaaGreatDoor
