/-
  WHAT IS PROVED HERE: nodes and messages as data, and how they lie in memory. No condition.
-/
import Derived.Test.YtnaindoeihnmpaaDoorJrn0
import Derived.Test.YtnaindoeihnmpaaDoorPeerQ
namespace Go.Proofs.YtnaindoeihnmpaaDoor
open Go.RowKit

structure Slc where
  A : Option Addr
  n : Nat
  c : Nat
structure Hd where
  t : Int
  v : Int
  l : Lg
  s : ByteArray
  vs : List Int
structure Nd where
  id : Int
  h : Hd
  role : Int
  lead : Int
  timer : Int
  commit : Int
  got : List Int
  ps : List Pr
/-- where a node's rows lie: records, voters, who voted for it, peers -/
structure NdA where
  R : Slc
  V : Slc
  G : Slc
  P : Slc
def nodeV (N : Nd) (a : NdA) : Value :=
  .agg #[.int .i64 N.id, .int .i64 N.h.t, .int .i64 N.h.v, .int .i64 N.h.l.base, .int .i64 N.h.l.bt, .slice a.R.A a.R.n a.R.c, .string N.h.s, .slice a.V.A a.V.n a.V.c, .int .i64 N.role, .int .i64 N.lead, .int .i64 N.timer, .int .i64 N.commit, .slice a.G.A a.G.n a.G.c, .slice a.P.A a.P.n a.P.c]
structure NdOk (w : World) (B : Nat) (N : Nd) (a : NdA) : Prop where
  recs : Recs w B a.R.A a.R.n N.h.l.rs
  rc : a.R.n ≤ a.R.c
  rb : a.R.c * 32 ≤ 140737488351232
  vs : Ints w B a.V.A a.V.n N.h.vs
  vc : a.V.n ≤ a.V.c
  vb : a.V.c * 8 ≤ 140737488351232
  sb : N.h.s.size ≤ 140737488351232
  got : Ints w B a.G.A a.G.n N.got
  gc : a.G.n ≤ a.G.c
  gb : a.G.c * 8 ≤ 140737488351232
  ps : Prs w B a.P.A a.P.n N.ps
  pc : a.P.n ≤ a.P.c
  pb : a.P.c * 24 ≤ 140737488351232
structure Ms where
  kind : Int
  fr : Int
  to : Int
  term : Int
  ok : Bool
  index : Int
  lterm : Int
  rs : List Rec
  commit : Int
  s : ByteArray
  vs : List Int
structure MsA where
  R : Slc
  V : Slc
def msgV (M : Ms) (a : MsA) : Value :=
  .agg #[.int .i64 M.kind, .int .i64 M.fr, .int .i64 M.to, .int .i64 M.term, .bool M.ok, .int .i64 M.index, .int .i64 M.lterm, .slice a.R.A a.R.n a.R.c, .int .i64 M.commit, .string M.s, .slice a.V.A a.V.n a.V.c]
structure MsOk (w : World) (B : Nat) (M : Ms) (a : MsA) : Prop where
  recs : Recs w B a.R.A a.R.n M.rs
  rc : a.R.n ≤ a.R.c
  rb : a.R.c * 32 ≤ 140737488351232
  vs : Ints w B a.V.A a.V.n M.vs
  vc : a.V.n ≤ a.V.c
  vb : a.V.c * 8 ≤ 140737488351232
  sb : M.s.size ≤ 140737488351232
section
variable {w w' : World} {B B' : Nat} {N : Nd} {a : NdA} {M : Ms} {b : MsA}
theorem NdOk.to (h : NdOk w B N a) (hb : Below w.heap.size w w') : NdOk w' B N a := ⟨h.recs.to hb, h.rc, h.rb, h.vs.to hb, h.vc, h.vb, h.sb, h.got.to hb, h.gc, h.gb, h.ps.to hb, h.pc, h.pb⟩
theorem MsOk.to (h : MsOk w B M b) (hb : Below w.heap.size w w') : MsOk w' B M b := ⟨h.recs.to hb, h.rc, h.rb, h.vs.to hb, h.vc, h.vb, h.sb⟩
end
/-- numbers of all that a small node or message may hold -/
def bytesR (rs : List Rec) : Nat := (rs.map fun r => r.d.size).sum
end Go.Proofs.YtnaindoeihnmpaaDoor
