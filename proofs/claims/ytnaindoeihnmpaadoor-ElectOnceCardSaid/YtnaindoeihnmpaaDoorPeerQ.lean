/-
  WHAT IS PROVED HERE: peers as data (three numbers each); what the reference's has hands back. Condition: the slice is of at most 2^43 elements.
-/
import Derived.Test.YtnaindoeihnmpaaDoorQuorumS
import Derived.Test.YtnaindoeihnmpaaDoorEnds
import Derived.Test.YtnaindoeihnmpaaDoorMem
namespace Go.Proofs.YtnaindoeihnmpaaDoor
open Go.RowKit

def prCells (i : Pr) : List Value := [.int .i64 i.id, .int .i64 i.nx, .int .i64 i.mt]
def prsL (is : List Pr) : List Value := is.flatMap prCells
def Prs (w : World) (B : Nat) (A : Option Addr) (n : Nat) (is : List Pr) : Prop := Reads w B 61 3 A n (prsL is)
theorem prsL_len : ∀ is : List Pr, (prsL is).length = is.length * 3
  | [] => rfl
  | r :: rs => by
    have := prsL_len rs
    unfold prsL at *
    simp only [List.flatMap_cons, List.length_append, List.length_cons, this, prCells, List.length_nil]
    omega
theorem prsL_at : ∀ (is : List Pr) (k : Nat) (r : Pr), is[k]? = some r → (prsL is)[k * 3]? = some (.int .i64 r.id) ∧ (prsL is)[k * 3 + 1]? = some (.int .i64 r.nx) ∧ (prsL is)[k * 3 + 2]? = some (.int .i64 r.mt)
  | r :: rs, 0, r', h => by
    simp only [List.getElem?_cons_zero, Option.some.injEq] at h
    subst h
    simp [prsL, prCells]
  | r :: rs, k + 1, r', h => by
    have ih := prsL_at rs k r' (by simpa using h)
    have e : ∀ j, (prsL (r :: rs))[j + 3]? = (prsL rs)[j]? := by
      intro j
      simp [prsL, prCells]
    rw [show (k + 1) * 3 = k * 3 + 3 from by omega, show k * 3 + 3 + 1 = k * 3 + 1 + 3 from by omega, show k * 3 + 3 + 2 = k * 3 + 2 + 3 from by omega, e, e, e]
    exact ih
theorem prsL_take (rs : List Pr) : ∀ k, (prsL rs).take (k * 3) = prsL (rs.take k) := by
  intro k
  induction k generalizing rs with
  | zero => simp [prsL]
  | succ k ih =>
    cases rs with
    | nil => simp [prsL]
    | cons r rs =>
      have := ih rs
      rw [show (k + 1) * 3 = k * 3 + 3 from by omega]
      simpa [prsL, prCells] using this
section
variable {w w' : World} {B n : Nat} {A : Option Addr} {is : List Pr}
theorem Prs.len (h : Prs w B A n is) : is.length = n := by
  have := h.1
  rw [prsL_len] at this
  omega
theorem Prs.at_ {k : Nat} (h : Prs w B A n is) (hk : k < n) :
    ∃ b o r, A = some ⟨b, o, none⟩ ∧ b < w.heap.size ∧ is.drop k = r :: is.drop (k + 1) ∧ w.cell? ⟨b, o + k * 3, none⟩ = some (.int .i64 r.id) ∧ w.cell? ⟨b, o + k * 3 + 1, none⟩ = some (.int .i64 r.nx) ∧ w.cell? ⟨b, o + k * 3 + 2, none⟩ = some (.int .i64 r.mt) := by
  obtain ⟨b, o, e, hb, _, hc⟩ := h.2 (by omega)
  have hl : k < is.length := by have := h.len; omega
  obtain ⟨c0, c1, c2⟩ := prsL_at is k is[k] (List.getElem?_eq_getElem hl)
  exact ⟨b, o, is[k], e, hb, List.drop_eq_getElem_cons hl, hc _ _ c0, hc _ _ c1, hc _ _ c2⟩
theorem Prs.to (h : Prs w B A n is) (hb : Below w.heap.size w w') : Prs w' B A n is := Reads.to h hb
theorem Prs.top (h : Prs w B A n is) : Prs w w.heap.size A n is := ⟨h.1, fun hn => by obtain ⟨b, o, e1, e2, _, e3⟩ := h.2 hn; exact ⟨b, o, e1, e2, .inl e2, e3⟩⟩
theorem Prs.take {k : Nat} (h : Prs w B A n is) (hk : k ≤ n) : Prs w B A k (is.take k) := by
  have h1 := Reads.take h hk
  rw [prsL_take] at h1
  exact h1
end

end Go.Proofs.YtnaindoeihnmpaaDoor
