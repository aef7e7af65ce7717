/-
  WHAT IS PROVED HERE: logs as data (records of two ints and a text behind a place), what journal.Right and the reference's Right hand back. Conditions: the records' slice is of at most 2^47 elements.
-/
import Derived.Test.YtfaigomhnhgjfaaDoorBase
namespace Go.Proofs.YtfaigomhnhgjfaaDoor
open Go.RowKit

structure Rec where
  t : Int
  k : Int
  d : ByteArray
structure Lg where
  base : Int
  bt : Int
  rs : List Rec

def recCells (r : Rec) : List Value := [.int .i64 r.t, .int .i64 r.k, .string r.d]
def recV (r : Rec) : Value := .agg #[.int .i64 r.t, .int .i64 r.k, .string r.d]
def cellsOf (rs : List Rec) : List Value := rs.flatMap recCells
def Recs (w : World) (B : Nat) (A : Option Addr) (n : Nat) (rs : List Rec) : Prop := Reads w B 45 3 A n (cellsOf rs)
def logV (l : Lg) (A : Option Addr) (n cap : Nat) : Value := .agg #[.int .i64 l.base, .int .i64 l.bt, .slice A n cap]

theorem cellsOf_len : ∀ rs : List Rec, (cellsOf rs).length = rs.length * 3
  | [] => rfl
  | r :: rs => by
    have := cellsOf_len rs
    unfold cellsOf at *
    simp only [List.flatMap_cons, List.length_append, List.length_cons, this, recCells, List.length_nil]
    omega
theorem cellsOf_at : ∀ (rs : List Rec) (k : Nat) (r : Rec), rs[k]? = some r → (cellsOf rs)[k * 3]? = some (.int .i64 r.t) ∧ (cellsOf rs)[k * 3 + 1]? = some (.int .i64 r.k) ∧ (cellsOf rs)[k * 3 + 2]? = some (.string r.d)
  | r :: rs, 0, r', h => by
    simp only [List.getElem?_cons_zero, Option.some.injEq] at h
    subst h
    simp [cellsOf, recCells]
  | r :: rs, k + 1, r', h => by
    have ih := cellsOf_at rs k r' (by simpa using h)
    have e : ∀ j, (cellsOf (r :: rs))[j + 3]? = (cellsOf rs)[j]? := by
      intro j
      simp [cellsOf, recCells]
    rw [show (k + 1) * 3 = k * 3 + 3 from by omega, show k * 3 + 3 + 1 = k * 3 + 1 + 3 from by omega, show k * 3 + 3 + 2 = k * 3 + 2 + 3 from by omega, e, e, e]
    exact ih
section
variable {w w' : World} {B B' n : Nat} {A : Option Addr} {rs : List Rec}
theorem Recs.len (h : Recs w B A n rs) : rs.length = n := by
  have := h.1
  rw [cellsOf_len] at this
  omega
theorem Recs.at_ {k : Nat} (h : Recs w B A n rs) (hk : k < n) :
    ∃ b o r, A = some ⟨b, o, none⟩ ∧ b < w.heap.size ∧ Hid (rs.drop k = r :: rs.drop (k + 1)) ∧ w.cell? ⟨b, o + k * 3, none⟩ = some (.int .i64 r.t) ∧ w.cell? ⟨b, o + k * 3 + 1, none⟩ = some (.int .i64 r.k) ∧ w.cell? ⟨b, o + k * 3 + 2, none⟩ = some (.string r.d) := by
  obtain ⟨b, o, e, hb, _, hc⟩ := h.2 (by omega)
  have hl : k < rs.length := by have := h.len; omega
  obtain ⟨c0, c1, c2⟩ := cellsOf_at rs k rs[k] (List.getElem?_eq_getElem hl)
  exact ⟨b, o, rs[k], e, hb, List.drop_eq_getElem_cons hl, hc _ _ c0, hc _ _ c1, hc _ _ c2⟩
theorem Recs.below (h : Recs w B A n rs) (hb : Below w.heap.size w w') : Recs w' B A n rs := Reads.to h hb
theorem Recs.to (h : Recs w B A n rs) (hb : Below w.heap.size w w') : Recs w' B A n rs := Reads.to h hb
theorem Recs.more (h : Recs w B A n rs) (hB : B ≤ B') : Recs w B' A n rs := Reads.more h hB
theorem Recs.end_ {k : Nat} (h : Recs w B A n rs) (hlt : ¬ k < n) : rs.drop k = [] := by
  have := h.len
  exact List.drop_eq_nil_of_le (by omega)
end

/-- is the number within? -/
def inB (n lo hi : Int) : Bool := decide (lo ≤ n) && decide (n ≤ hi)
/-- may these records follow a term? -/
def okRecs (term : Int) : List Rec → Bool
  | [] => true
  | r :: rs => if inB r.t term 1073741824 && inB r.k 0 2 && decide (r.d.size ≤ 8192) then okRecs r.t rs else false
def rightJ (l : Lg) : Bool :=
  inB l.base 0 1073741824 && inB l.bt 0 1073741824 && (l.base == 0) == (l.bt == 0) && decide (l.rs.length ≤ 200) && decide (l.base + l.rs.length ≤ 1073741824) && okRecs (max l.bt 1) l.rs

end Go.Proofs.YtfaigomhnhgjfaaDoor
