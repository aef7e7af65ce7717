/-
  WHAT IS PROVED HERE: what the reference's Draw, Later, Voters and End hand back. Condition: the slices are of at most 2^43 elements; of Later and End: the node may be.
-/
import Derived.Test.YtncdjmpdbinanaaGreatDoorZGStd
import Derived.Test.YtncdjmpdbinanaaGreatDoorZGJrn
namespace Go.Proofs.YtncdjmpdbinanaaGreatDoor
open Go.RowKit

theorem Draw_any (d : Int) (w : World) : Calls Tryz.prog 106 #[.int .i64 d] w fun e w' => e = .returned (.int .i64 (min (max d 0) 1048576)) ∧ w = w' := by
  by_cases h1 : d < 0
  · go_enter Tryz.func106, Tryz.ntmps106
    go_wp2
    go_ret
    exact ⟨ret_int (by omega), rfl⟩
  by_cases h2 : 1048576 < d
  · go_enter Tryz.func106, Tryz.ntmps106
    go_wp2
    go_ret
    exact ⟨ret_int (by omega), rfl⟩
  · go_enter Tryz.func106, Tryz.ntmps106
    go_wp2
    go_ret
    exact ⟨ret_int (by omega), rfl⟩
def RetVo (B : Nat) (w : World) (vs : List Int) (e : Ending) (w' : World) : Prop := ∃ A n c, e = .returned (.slice A n c) ∧ Ints w' B A n vs ∧ n ≤ 140737488355328 ∧ Below w.heap.size w w'
set_option maxRecDepth 100000 in
theorem NVoters_any (N : Nd) (a : NdA) (w : World) {B : Nat} (hN : NdOk w B N a) (h43 : a.R.n ≤ 8796093022208 ∧ a.V.n ≤ 8796093022208) :
    Calls Tryz.prog 76 #[nodeV N a] w fun e w' => RetVo B w (votersN N) e w' := by
  obtain ⟨R, hR⟩ : ∃ R, votersN N = R := ⟨_, rfl⟩
  rw [hR]
  unfold votersN at hR
  obtain ⟨hrc, _, _, hi, _, _, _, _, _, _, _, _, _⟩ := hN
  obtain ⟨id, ⟨t, v, ⟨base, bt, rs⟩, s, vs⟩, role, lead, timer, commit, got, ps⟩ := N
  obtain ⟨⟨RA, n, Rc⟩, ⟨VA, m, Vc⟩, ⟨GA, gn, Gc⟩, ⟨PA, pn, Pc⟩⟩ := a
  dsimp only at hR hrc hi h43
  obtain ⟨h43a, h43b⟩ := h43
  unfold nodeV
  dsimp only
  refine calls_of_wpQ Tryz.func76 rfl ?_
  intro Q hQ
  simp only [Tryz.ntmps76, List.size_toArray, List.length_cons, List.length_nil, Nat.reduceAdd, Nat.reduceSub, Array.replicate_succ, Array.replicate_zero, List.push_toArray, List.append_toArray, List.nil_append, List.cons_append]
  go_wp2_with fail
  refine (refOf_any t v ⟨base, bt, rs⟩ RA n Rc s VA m Vc vs _ B B h43a (by omega) (hrc.to (by go_grown)) (hi.to (by go_grown))).mono ?_
  rintro e w1 ⟨A2, n2, c2, rfl, hI, hn2, hb1⟩
  dsimp only at hI
  rw [hR] at hI
  have q1 := (after (w := w) hb1 (by go_grown)).1
  replace hI := hid_mk hI
  clear hb1 hR
  go_wp2
  refine ends_ret hQ (results_tmp rfl _ _ _) rfl ?_
  exact ⟨A2, n2, c2, rfl, hI.out, hn2, q1⟩
end Go.Proofs.YtncdjmpdbinanaaGreatDoor
