/-
  WHAT IS PROVED HERE: how a rule is read, in plain Lean: reading stands at a place, with an error or none. No program in sight. No condition.
-/
import Derived.Test.YtfafinnklniniaaDoorPlu1
namespace Go.Proofs.YtfafinnklniniaaDoor
open Go.RowKit

structure St where
  at_ : Nat
  bad : Int
deriving DecidableEq
section
variable (sl : List UInt8)
def wrongS (st : St) : St := if st.bad = 0 then ⟨st.at_, if sl.length ≤ st.at_ then 10 else 80⟩ else st
def isS (c : UInt8) (st : St) : Bool := decide (st.bad = 0) && (sl[st.at_]? == some c)
def mustS : List UInt8 → St → St
  | [], st => st
  | c :: t, st => if st.bad ≠ 0 then st else if sl[st.at_]? = some c then mustS t ⟨st.at_ + 1, 0⟩ else wrongS sl st
/-- digits: first: none was read yet -/
def numL : Bool → Int → Nat → List UInt8 → Int × St
  | first, n, a, [] => if first then (0, wrongS sl ⟨a, 0⟩) else (n, ⟨a, 0⟩)
  | first, n, a, c :: l =>
    if 48 ≤ c.toNat ∧ c.toNat ≤ 57 then
      if (first = false ∧ n = 0) ∨ 1000000 < 10 * n + ((c.toNat : Int) - 48) then (0, wrongS sl ⟨a, 0⟩)
      else numL false (10 * n + ((c.toNat : Int) - 48)) (a + 1) l
    else if first then (0, wrongS sl ⟨a, 0⟩) else (n, ⟨a, 0⟩)
def numS (st : St) : Int × St := if st.bad = 0 then numL sl true 0 st.at_ (sl.drop st.at_) else (0, st)
def oneSpan (st : St) : (Int × Option Int) × St :=
  if isS sl 46 (numS sl st).2 then (((numS sl st).1, some (numS sl (mustS sl [46, 46] (numS sl st).2)).1), (numS sl (mustS sl [46, 46] (numS sl st).2)).2)
  else (((numS sl st).1, none), (numS sl st).2)
def spansF : Nat → St → List (Int × Option Int) × St
  | 0, st => ([], st)
  | f + 1, st => if isS sl 44 (oneSpan sl st).2 then ((oneSpan sl st).1 :: (spansF f ⟨(oneSpan sl st).2.at_ + 1, 0⟩).1, (spansF f ⟨(oneSpan sl st).2.at_ + 1, 0⟩).2)
    else ([(oneSpan sl st).1], (oneSpan sl st).2)
def modS (st : St) : Option Int × St :=
  if isS sl 37 st then (some (numS sl (mustS sl [37, 32] st)).1, mustS sl [32] (numS sl (mustS sl [37, 32] st)).2) else (none, st)
def notS (st : St) : Bool × St := if isS sl 33 st then (true, mustS sl [33] st) else (false, st)
structure Raw where
  mod : Option Int
  not : Bool
  spans : List (Int × Option Int)
deriving DecidableEq
def headS (st : St) : Option Int × Bool × St :=
  ((modS sl (mustS sl [105, 32] st)).1, (notS sl (modS sl (mustS sl [105, 32] st)).2).1, mustS sl [61, 32] (notS sl (modS sl (mustS sl [105, 32] st)).2).2)
def relS (st : St) : Raw × St :=
  (⟨(headS sl st).1, (headS sl st).2.1, (spansF sl (sl.length + 1) (headS sl st).2.2).1⟩, (spansF sl (sl.length + 1) (headS sl st).2.2).2)
end
def cSpan (s : Int × Option Int) : Int × Int := (s.1, match s.2 with
  | none => s.1
  | some h => if h ≤ s.1 then -1 else h)
def cMod : Option Int → Int
  | none => 0
  | some m => if m = 0 then -1 else m
def cRel (r : Raw) : Rl := ⟨cMod r.mod, r.not, r.spans.map cSpan⟩
theorem isS_lt {sl : List UInt8} {c : UInt8} {st : St} (h : isS sl c st = true) : st.bad = 0 ∧ st.at_ < sl.length := by
  unfold isS at h
  simp only [Bool.and_eq_true, decide_eq_true_eq, beq_iff_eq] at h
  exact ⟨h.1, (List.getElem?_eq_some_iff.1 h.2).1⟩
theorem wrongS_at (sl : List UInt8) (st : St) : (wrongS sl st).at_ = st.at_ := by unfold wrongS; split <;> rfl
theorem mustS_mono (sl : List UInt8) : ∀ (t : List UInt8) (st : St), st.at_ ≤ (mustS sl t st).at_
  | [], st => Nat.le_refl _
  | c :: t, st => by
    rw [mustS]
    split
    · exact Nat.le_refl _
    · split
      · have := mustS_mono sl t ⟨st.at_ + 1, 0⟩
        dsimp only at this
        omega
      · rw [wrongS_at]; exact Nat.le_refl _
theorem numL_mono (sl : List UInt8) : ∀ (l : List UInt8) (first : Bool) (n : Int) (a : Nat), a ≤ (numL sl first n a l).2.at_
  | [], first, n, a => by
    rw [numL]
    split
    · rw [wrongS_at]; exact Nat.le_refl _
    · exact Nat.le_refl _
  | c :: l, first, n, a => by
    rw [numL]
    split
    · split
      · rw [wrongS_at]; exact Nat.le_refl _
      · have := numL_mono sl l false (10 * n + ((c.toNat : Int) - 48)) (a + 1)
        omega
    · split
      · rw [wrongS_at]; exact Nat.le_refl _
      · exact Nat.le_refl _
theorem numS_mono (sl : List UInt8) (st : St) : st.at_ ≤ (numS sl st).2.at_ := by
  unfold numS
  split
  · exact numL_mono sl _ _ _ _
  · exact Nat.le_refl _
theorem oneSpan_mono (sl : List UInt8) (st : St) : st.at_ ≤ (oneSpan sl st).2.at_ := by
  have h1 := numS_mono sl st
  have h2 := mustS_mono sl [46, 46] (numS sl st).2
  have h3 := numS_mono sl (mustS sl [46, 46] (numS sl st).2)
  unfold oneSpan
  split
  · dsimp only; omega
  · exact h1
theorem mustS_bad (sl : List UInt8) : ∀ (t : List UInt8) {a : Nat} {b : Int}, b ≠ 0 → mustS sl t ⟨a, b⟩ = ⟨a, b⟩
  | [], _, _, _ => rfl
  | c :: t, a, b, h => by rw [mustS, if_pos h]
end Go.Proofs.YtfafinnklniniaaDoor
