/-
  WHAT IS PROVED HERE: slices of messages as data, and how they lie in memory. No condition.
-/
import Derived.Test.YtnaindoeihnmpaaDoorNode
namespace Go.Proofs.YtnaindoeihnmpaaDoor
open Go.RowKit

def msgCells (p : Ms × MsA) : List Value := [.int .i64 p.1.kind, .int .i64 p.1.fr, .int .i64 p.1.to, .int .i64 p.1.term, .bool p.1.ok, .int .i64 p.1.index, .int .i64 p.1.lterm, .slice p.2.R.A p.2.R.n p.2.R.c, .int .i64 p.1.commit, .string p.1.s, .slice p.2.V.A p.2.V.n p.2.V.c]
def mgsL (ms : List (Ms × MsA)) : List Value := ms.flatMap msgCells
def Mgs (w : World) (B : Nat) (A : Option Addr) (n : Nat) (ms : List (Ms × MsA)) : Prop := Reads w B 32 11 A n (mgsL ms) ∧ ∀ p ∈ ms, MsOk w B p.1 p.2
def nilMA : MsA := ⟨⟨none, 0, 0⟩, ⟨none, 0, 0⟩⟩
theorem nilMA_ok {w : World} {B : Nat} {M : Ms} (h1 : M.rs = []) (h2 : M.vs = []) (h3 : M.s.size = 0) : MsOk w B M nilMA := by
  refine ⟨?_, Nat.le_refl _, by unfold nilMA; dsimp only; omega, ?_, Nat.le_refl _, by unfold nilMA; dsimp only; omega, by omega⟩
  · rw [h1]; exact Reads.none_
  · rw [h2]; exact Reads.none_
theorem mgsL_len : ∀ ms : List (Ms × MsA), (mgsL ms).length = ms.length * 11
  | [] => rfl
  | r :: rs => by
    have := mgsL_len rs
    unfold mgsL at *
    simp only [List.flatMap_cons, List.length_append, List.length_cons, this, msgCells, List.length_nil]
    omega
theorem mgsL_at : ∀ (ms : List (Ms × MsA)) (k : Nat) (p : Ms × MsA), ms[k]? = some p → ∀ j, j < 11 → (mgsL ms)[k * 11 + j]? = (msgCells p)[j]?
  | r :: rs, 0, p, h, j, hj => by
    simp only [List.getElem?_cons_zero, Option.some.injEq] at h
    subst h
    rw [Nat.zero_mul, Nat.zero_add, mgsL, List.flatMap_cons, List.getElem?_append_left (by simpa [msgCells] using hj)]
  | r :: rs, k + 1, p, h, j, hj => by
    have ih := mgsL_at rs k p (by simpa using h) j hj
    rw [← ih, mgsL, List.flatMap_cons, List.getElem?_append_right (by simp [msgCells]; omega)]
    congr 1
    simp [msgCells]; omega
section
variable {w w' : World} {B n : Nat} {A : Option Addr} {ms : List (Ms × MsA)} {L : List Ms}
theorem Mgs.len (h : Mgs w B A n ms) : ms.length = n := by
  have := h.1.1
  rw [mgsL_len] at this
  omega
theorem Mgs.to (h : Mgs w B A n ms) (hb : Below w.heap.size w w') : Mgs w' B A n ms := ⟨h.1.to hb, fun p hp => (h.2 p hp).to hb⟩
theorem Mgs.at_ {k : Nat} (h : Mgs w B A n ms) (hk : k < n) :
    ∃ b o p, A = some ⟨b, o, none⟩ ∧ b < w.heap.size ∧ ms.drop k = p :: ms.drop (k + 1) ∧ MsOk w B p.1 p.2 ∧ w.cell? ⟨b, o + k * 11, none⟩ = some (.int .i64 p.1.kind) ∧ w.cell? ⟨b, o + k * 11 + 1, none⟩ = some (.int .i64 p.1.fr) ∧ w.cell? ⟨b, o + k * 11 + 2, none⟩ = some (.int .i64 p.1.to) ∧ w.cell? ⟨b, o + k * 11 + 3, none⟩ = some (.int .i64 p.1.term) ∧ w.cell? ⟨b, o + k * 11 + 4, none⟩ = some (.bool p.1.ok) ∧ w.cell? ⟨b, o + k * 11 + 5, none⟩ = some (.int .i64 p.1.index) ∧ w.cell? ⟨b, o + k * 11 + 6, none⟩ = some (.int .i64 p.1.lterm) ∧ w.cell? ⟨b, o + k * 11 + 7, none⟩ = some (.slice p.2.R.A p.2.R.n p.2.R.c) ∧ w.cell? ⟨b, o + k * 11 + 8, none⟩ = some (.int .i64 p.1.commit) ∧ w.cell? ⟨b, o + k * 11 + 9, none⟩ = some (.string p.1.s) ∧ w.cell? ⟨b, o + k * 11 + 10, none⟩ = some (.slice p.2.V.A p.2.V.n p.2.V.c) := by
  obtain ⟨b, o, e, hb, _, hc⟩ := h.1.2 (by omega)
  have hl : k < ms.length := by have := h.len; omega
  have hg := mgsL_at ms k ms[k] (List.getElem?_eq_getElem hl)
  have hq : ∀ j, j < 11 → ∀ u, (msgCells ms[k])[j]? = some u → w.cell? ⟨b, o + k * 11 + j, none⟩ = some u := fun j hj u hu => by
    have := hc (k * 11 + j) u (by rw [hg j hj]; exact hu)
    rw [← Nat.add_assoc] at this
    exact this
  exact ⟨b, o, ms[k], e, hb, List.drop_eq_getElem_cons hl, h.2 _ (List.getElem_mem hl), hq 0 (by omega) _ rfl, hq 1 (by omega) _ rfl, hq 2 (by omega) _ rfl, hq 3 (by omega) _ rfl, hq 4 (by omega) _ rfl, hq 5 (by omega) _ rfl, hq 6 (by omega) _ rfl, hq 7 (by omega) _ rfl, hq 8 (by omega) _ rfl, hq 9 (by omega) _ rfl, hq 10 (by omega) _ rfl⟩
theorem Mgs.far (h : Mgs w 0 A n (L.map fun M => (M, nilMA))) {g : Nat} {t : TypeId} {cs : Array Value} (k : Blk w g t cs) (hne : 32 ≠ t) (i : Nat) (u : Value) (hs : ∀ M ∈ L, M.rs = [] ∧ M.vs = [] ∧ M.s.size = 0) : Mgs (w.setCell ⟨g, i, none⟩ u) 0 A n (L.map fun M => (M, nilMA)) := by
  refine ⟨Reads.far h.1 k (Nat.zero_le _) hne i u, fun p hp => ?_⟩
  obtain ⟨M, hM, rfl⟩ := List.mem_map.1 hp
  obtain ⟨h1, h2, h3⟩ := hs M hM
  exact nilMA_ok h1 h2 h3
theorem Mgs.at_to {k : Nat} (h : Mgs w B A n ms) (hb : Below w.heap.size w w') (hk : k < n) :
    ∃ b o p, A = some ⟨b, o, none⟩ ∧ b < w'.heap.size ∧ ms.drop k = p :: ms.drop (k + 1) ∧ MsOk w B p.1 p.2 ∧ w'.cell? ⟨b, o + k * 11, none⟩ = some (.int .i64 p.1.kind) ∧ w'.cell? ⟨b, o + k * 11 + 1, none⟩ = some (.int .i64 p.1.fr) ∧ w'.cell? ⟨b, o + k * 11 + 2, none⟩ = some (.int .i64 p.1.to) ∧ w'.cell? ⟨b, o + k * 11 + 3, none⟩ = some (.int .i64 p.1.term) ∧ w'.cell? ⟨b, o + k * 11 + 4, none⟩ = some (.bool p.1.ok) ∧ w'.cell? ⟨b, o + k * 11 + 5, none⟩ = some (.int .i64 p.1.index) ∧ w'.cell? ⟨b, o + k * 11 + 6, none⟩ = some (.int .i64 p.1.lterm) ∧ w'.cell? ⟨b, o + k * 11 + 7, none⟩ = some (.slice p.2.R.A p.2.R.n p.2.R.c) ∧ w'.cell? ⟨b, o + k * 11 + 8, none⟩ = some (.int .i64 p.1.commit) ∧ w'.cell? ⟨b, o + k * 11 + 9, none⟩ = some (.string p.1.s) ∧ w'.cell? ⟨b, o + k * 11 + 10, none⟩ = some (.slice p.2.V.A p.2.V.n p.2.V.c) := by
  obtain ⟨b, o, p, e, hbb, hd, _, cs⟩ := (h.to hb).at_ hk
  exact ⟨b, o, p, e, hbb, hd, h.2 p (List.mem_of_mem_drop (by rw [hd]; exact .head _)), cs⟩
theorem Mgs.end_ (h : Mgs w B A n ms) {k : Nat} (hk : ¬ k < n) : ms.drop k = [] := List.drop_eq_nil_of_le (by rw [h.len]; omega)
end
/-- what hands back a node and messages that hold no slices -/
def RetNM (N : Nd) (a : NdA) (ms : List Ms) (e : Ending) (w : World) : Prop :=
  ∃ A n c, e = .returned (.tuple #[nodeV N a, .slice A n c]) ∧ Mgs w 0 A n (ms.map fun M => (M, nilMA)) ∧ n ≤ c
theorem mgs_nil {w : World} {B : Nat} : Mgs w B none 0 [] := ⟨Reads.none_, fun _ h => by cases h⟩
/-- one message in a block of its own -/
theorem mgs_one {w : World} {B g : Nat} {M : Ms} (h : Blk w g 32 #[.int .i64 M.kind, .int .i64 M.fr, .int .i64 M.to, .int .i64 M.term, .bool M.ok, .int .i64 M.index, .int .i64 M.lterm, .slice none 0 0, .int .i64 M.commit, .string M.s, .slice none 0 0]) (h1 : M.rs = []) (h2 : M.vs = []) (h3 : M.s.size = 0) : Mgs w B (some ⟨g, 0, none⟩) 1 [(M, nilMA)] := by
  refine ⟨⟨rfl, fun _ => ⟨g, 0, rfl, h.lt, .inr ⟨_, _, h⟩, fun j u hu => ?_⟩⟩, fun p hp => ?_⟩
  · rw [Nat.zero_add, h.cell j]
    simpa [mgsL, msgCells, nilMA] using hu
  · rw [List.mem_singleton] at hp
    subst hp
    exact nilMA_ok h1 h2 h3
end Go.Proofs.YtnaindoeihnmpaaDoor
