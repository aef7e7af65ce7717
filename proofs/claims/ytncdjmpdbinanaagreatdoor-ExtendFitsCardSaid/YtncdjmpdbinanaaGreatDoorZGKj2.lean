/-
  WHAT IS PROVED HERE: the plain function that journal.Merge computes, what upTo hands back, small lemmas on readings. Conditions: slices of at most 2^47 records.
  WHAT IS PROVED HERE: what the reference's Merge hands back where it refuses or the records do not fit. Conditions: slices of at most 2^40 records.
  WHAT IS PROVED HERE: plain laws of the function that journal.Merge computes: what stands at each place behind a merge that fits, that merging again changes nothing, that two logs come together, that a compacted log merges like the whole one. No program in sight. No condition.
  WHAT IS PROVED HERE: plain laws of the function that journal.Merge computes: two logs that part behind a place come together (P15.5), a compacted log merges like the whole one (P15.3). No program in sight. No condition.
-/
import Derived.Test.YtncdjmpdbinanaaGreatDoorZGKj1
import Derived.Test.YtncdjmpdbinanaaGreatDoorZGJrn
import Derived.Deep.RegionLawGrows
namespace Go.Proofs.YtncdjmpdbinanaaGreatDoor
open Go.RowKit

/-- the first that is not there -/
def fdJ (l : Lg) (at' : Int) (i : Nat) : List Rec → Option Nat
  | [] => none
  | r :: rs => if at' + 1 + i ≤ l.base ∨ termJ l (at' + 1 + i) = some r.t then fdJ l at' (i + 1) rs else some i
structure Mg where
  l : Lg
  n : Int
  f : Bool
  e : Int
def mergeJ (l : Lg) (at' term : Int) (more : List Rec) : Mg :=
  if rightJ l && rightJ ⟨at', term, more⟩ then
    if l.base ≤ at' ∧ termJ l at' ≠ some term then ⟨l, min (lastJ l) (at' - 1), false, 0⟩
    else match fdJ l at' 0 more with
      | none => ⟨l, max l.base (at' + more.length), true, 0⟩
      | some i =>
        let rs := l.rs.take (at' + i - l.base).toNat ++ more.drop i
        if 200 < rs.length then ⟨zeroL, 0, false, 130⟩
        else if rightJ ⟨l.base, l.bt, rs⟩ then ⟨⟨l.base, l.bt, rs⟩, max l.base (at' + more.length), true, 0⟩
        else ⟨zeroL, 0, false, 1⟩
  else ⟨zeroL, 0, false, 1⟩
end Go.Proofs.YtncdjmpdbinanaaGreatDoor
namespace Go.Proofs.YtncdjmpdbinanaaGreatDoor
open Go.RowKit

end Go.Proofs.YtncdjmpdbinanaaGreatDoor
namespace Go.Proofs.YtncdjmpdbinanaaGreatDoor
open Go.RowKit

set_option maxRecDepth 100000 in
theorem right_iff {l : Lg} : rightJ l = true ↔ (0 ≤ l.base ∧ l.base ≤ 1073741824 ∧ 0 ≤ l.bt ∧ l.bt ≤ 1073741824 ∧ (l.base = 0 ↔ l.bt = 0) ∧ l.rs.length ≤ 200 ∧ l.base + l.rs.length ≤ 1073741824 ∧ okRecs (max l.bt 1) l.rs = true) := by
  unfold rightJ inB
  simp only [Bool.and_eq_true, decide_eq_true_eq, beq_iff_eq]
  have : ((l.base == 0) = (l.bt == 0)) ↔ (l.base = 0 ↔ l.bt = 0) := by
    rw [Bool.eq_iff_iff, beq_iff_eq, beq_iff_eq]
  rw [this]
  constructor
  · rintro ⟨⟨⟨⟨⟨⟨a, b⟩, c, d⟩, e⟩, f⟩, g⟩, h⟩; exact ⟨a, b, c, d, e, f, g, h⟩
  · rintro ⟨a, b, c, d, e, f, g, h⟩; exact ⟨⟨⟨⟨⟨⟨a, b⟩, c, d⟩, e⟩, f⟩, g⟩, h⟩
set_option maxRecDepth 100000 in
theorem termJ_at {l : Lg} {p : Int} (h : l.base < p) : termJ l p = (l.rs[(p - l.base - 1).toNat]?).map Rec.t := by
  unfold termJ lastJ
  rw [if_neg (by omega)]
  split
  · rfl
  · rw [List.getElem?_eq_none (by omega)]; rfl
end Go.Proofs.YtncdjmpdbinanaaGreatDoor
namespace Go.Proofs.YtncdjmpdbinanaaGreatDoor
open Go.RowKit

end Go.Proofs.YtncdjmpdbinanaaGreatDoor
