/-
  WHAT IS PROVED HERE: what the reference's Last and Sure hand back of a node that may be. Conditions: the slices are of at most 2^47 bytes.
-/
import Derived.Test.YtncdjmpdbinanaaGreatDoorZEsr
import Derived.Test.YtncdjmpdbinanaaGreatDoorZRLt
namespace Go.Proofs.YtncdjmpdbinanaaGreatDoor
open Go.RowKit

set_option maxRecDepth 100000 in
set_option maxHeartbeats 1600000 in
theorem RLastN_any (N : Nd) (a : NdA) (w : World) {B : Nat} (hN : NdOk w B N a) (hj : rightJ N.h.l = true) :
    Calls Tryz.prog 66 #[nodeV N a] w fun e w' => e = .returned (.int .i64 (lastJ N.h.l)) ∧ Below w.heap.size w w' := by
  have hb := nd_rn hN
  obtain ⟨la, hla⟩ : ∃ x, lastJ N.h.l = x := ⟨_, rfl⟩
  have hrj := right_iff.1 hj
  have hlen := hN.recs.len
  have hLA := fun (w : World) => refLast_any N.h.l a.R.A a.R.n a.R.c w (by omega) hlen hrj.1 hrj.2.1
  rw [hla] at hLA ⊢
  clear hla hN hj hb hrj hlen
  obtain ⟨id, ⟨t, v, ⟨base, bt, rs⟩, s, vs⟩, role, lead, timer, commit, got, ps⟩ := N
  obtain ⟨⟨RA, n, Rc⟩, ⟨VA, m, Vc⟩, ⟨GA, gn, Gc⟩, ⟨PA, pn, Pc⟩⟩ := a
  dsimp only at hLA
  unfold nodeV
  dsimp only
  have hX : Hid (Blk (w.alloc (.cells #[.int .i64 id, .int .i64 t, .int .i64 v, .int .i64 base, .int .i64 bt, .slice RA n Rc, .string s, .slice VA m Vc, .int .i64 role, .int .i64 lead, .int .i64 timer, .int .i64 commit, .slice GA gn Gc, .slice PA pn Pc] 30)) w.heap.size 30 #[.int .i64 id, .int .i64 t, .int .i64 v, .int .i64 base, .int .i64 bt, .slice RA n Rc, .string s, .slice VA m Vc, .int .i64 role, .int .i64 lead, .int .i64 timer, .int .i64 commit, .slice GA gn Gc, .slice PA pn Pc]) := Blk.new _ _ _
  refine calls_of_wpQ Tryz.func66 rfl ?_
  intro Q hQ
  simp only [Tryz.ntmps66, List.size_toArray, List.length_cons, List.length_nil, Nat.reduceAdd, Nat.reduceSub, Array.replicate_succ, Array.replicate_zero, List.push_toArray, List.append_toArray, List.nil_append, List.cons_append]
  go_wp2_with fail
  refine (hLA _).mono ?_
  rintro e w1 ⟨rfl, hbb⟩
  have q1 := (after (w := w) hbb (by go_grown)).1
  clear hbb
  go_wp2
  refine ends_ret hQ (results_tmp rfl _ _ _) rfl ?_
  exact ⟨rfl, q1⟩
end Go.Proofs.YtncdjmpdbinanaaGreatDoor
