/-
  WHAT IS PROVED HERE: the law ExtendKeeps returns true: a node that may be may be behind anything that it does. Conditions: the slices are of at most 2^47 bytes; the library's table and MaxLen stand.
-/
import Derived.Test.YtncdjmpdbinanaaGreatDoorZLaw18k1
import Derived.Test.YtncdjmpdbinanaaGreatDoorZLaw18k2
namespace Go.Proofs.YtncdjmpdbinanaaGreatDoor
open Go.RowKit

theorem LawKeeps_walk {w : World} (ht : Tab w) (mm : Int) (hm : w.cell? ⟨0, 0, none⟩ = some (.int .i64 mm)) (N : Nd) (a : NdA) (hN : NdOk w w.heap.size N a) (M : Ms) (b : MsA) (hM : MsOk w w.heap.size M b) (k : Int) (_ : -9223372036854775808 ≤ k) (_ : k ≤ 9223372036854775807) (d : ByteArray) (_ : d.size ≤ 140737488351232) (dr : Int) (_ : -9223372036854775808 ≤ dr) (_ : dr ≤ 9223372036854775807) :
    Calls Tryz.prog 9 #[nodeV N a, msgV M b, .int .i64 k, .string d, .int .i64 dr] w fun e w' => e = .returned (.bool true) ∧ Below w.heap.size w w' := by
  by_cases h : addE N k d = 0
  · exact LawKeeps2_any N a M b k d dr w hN hM ht mm hm h
  · exact LawKeeps1_any N a M b k d dr w hN hM ht mm hm h
end Go.Proofs.YtncdjmpdbinanaaGreatDoor
