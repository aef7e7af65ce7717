/-
  WHAT IS PROVED HERE: plain lemmas on memory that all walks of this seat use (a slice that reads as a list of ints, through new blocks and draws). No condition.
-/
import Derived.Test.YtnaindoeihnmpaaDoorRows
import Derived.WalkKit
import Derived.Lib.Hide
import Derived.Handy
import Derived.BigQuiet
import Derived.Deep.QuietTactic
import Derived.Deep.RegionWith
import Derived.Deep.RegionHeld3
import Derived.StillTailTactics
import Derived.Deep.DeepFit
import Derived.Deep.AppendLies
import Derived.Deep.Draws
import Derived.WalkSmall
import Derived.Laws.Rows
import Derived.WalkLawsBesides
import Derived.WalkSpells
import Derived.Lib.MinMax
namespace Go.Proofs.YtnaindoeihnmpaaDoor
open Go.RowKit

theorem hid_mk {p : Prop} (h : p) : Hid p := h

theorem add_plain (b o n : Nat) : (⟨b, o, none⟩ : Addr).add n = ⟨b, o + n, none⟩ := by
  unfold Addr.add
  by_cases h : n = 0 <;> simp [h]

/-- The slice value '.slice A n _' holds the cells xs ('size' cells an element of type e), in a block that is there, and that lies below B (B: where the heap ended when all began) or is a row of elements of type e. -/
def Reads (w : World) (B : Nat) (e : TypeId) (size : Nat) (A : Option Addr) (n : Nat) (xs : List Value) : Prop :=
  xs.length = n * size ∧ (0 < n → ∃ b o, A = some ⟨b, o, none⟩ ∧ b < w.heap.size ∧ (b < B ∨ ∃ cs fr, w.heap[b]? = some (.cells cs e fr)) ∧ ∀ j u, xs[j]? = some u → w.cell? ⟨b, o + j, none⟩ = some u)

/-- Block g is just the cells cs of element type t, none frozen. -/
def Blk (w : World) (g : Nat) (t : TypeId) (cs : Array Value) : Prop := w.heap[g]? = some (.cells cs t (0, 0))

section
variable {w w' : World} {g : Nat} {t : TypeId} {cs : Array Value}
theorem Blk.lt (h : Blk w g t cs) : g < w.heap.size := by
  rcases Nat.lt_or_ge g w.heap.size with hlt | hge
  · exact hlt
  · unfold Blk at h; rw [Array.getElem?_eq_none hge] at h; cases h
theorem Blk.cell (h : Blk w g t cs) (i : Nat) : w.cell? ⟨g, i, none⟩ = cs[i]? := cell_of_row w g i cs t (0, 0) h
theorem Blk.frozen (h : Blk w g t cs) (i : Nat) : w.frozen? ⟨g, i, none⟩ = false := by
  unfold Blk at h
  simp [World.frozen?, h]
theorem Blk.new (w : World) (t : TypeId) (cs : Array Value) : Blk (w.alloc (.cells cs t)) w.heap.size t cs := heap_alloc_new w _
theorem Blk.drew (h : Blk w g t cs) : Blk w.drew g t cs := h
theorem Blk.set_ (h : Blk w g t cs) (i : Nat) (u : Value) : Blk (w.setCell ⟨g, i, none⟩ u) g t (cs.setIfInBounds i u) := by
  unfold Blk at h ⊢
  simp [World.setCell, Array.getElem?_modify, h]
theorem Blk.far (h : Blk w g t cs) {p : Addr} (hp : g ≠ p.block) (u : Value) : Blk (w.setCell p u) g t cs := (Below.heap_setCell w p u g hp).trans h
theorem Blk.keep (h : Blk w g t cs) (hb : Below w.heap.size w w') : Blk w' g t cs := (hb.block g h.lt).trans h
theorem Blk.alloc (h : Blk w g t cs) (o : Obj) : Blk (w.alloc o) g t cs := (Below.heap_alloc w o g h.lt).trans h
theorem Blk.grown {row : Option Nat} (h : Blk w g t cs) (hb : w.grownBy w' row) (hg : some g ≠ row) : Blk w' g t cs := (hb.block g h.lt hg).trans h
theorem Blk.ne_ {g' : Nat} {t' : TypeId} {cs' : Array Value} (h : Blk w g t cs) (h' : Blk w g' t' cs') (hne : t ≠ t') : g ≠ g' := by
  rintro rfl
  unfold Blk at h h'
  rw [h] at h'
  injection h' with h'
  injection h' with _ ht
  exact hne ht
end

theorem blk3 {w : World} {g : Nat} {t : TypeId} {a b c : Value} (h : Blk w g t #[a, b, c]) :
    g < w.heap.size ∧ w.cell? ⟨g, 0, none⟩ = some a ∧ w.cell? ⟨g, 1, none⟩ = some b ∧ w.cell? ⟨g, 2, none⟩ = some c := ⟨h.lt, h.cell 0, h.cell 1, h.cell 2⟩

section
variable {w w' : World} {B B' size n : Nat} {e : TypeId} {A : Option Addr} {xs : List Value}
theorem Reads.none_ : Reads w B e size A 0 [] := ⟨by simp, fun h => absurd h (by omega)⟩
theorem Reads.to (h : Reads w B e size A n xs) (hb : Below w.heap.size w w') : Reads w' B e size A n xs :=
  ⟨h.1, fun hn => by
    obtain ⟨b, o, ea, hlt, ht, hc⟩ := h.2 hn
    refine ⟨b, o, ea, Nat.lt_of_lt_of_le hlt hb.size, ?_, fun j u hu => (hb.cell (p := ⟨b, o + j, none⟩) hlt).trans (hc j u hu)⟩
    rcases ht with ht | ⟨cs, fr, ht⟩
    · exact .inl ht
    · exact .inr ⟨cs, fr, (hb.block b hlt).trans ht⟩⟩
theorem Reads.more (h : Reads w B e size A n xs) (hB : B ≤ B') : Reads w B' e size A n xs :=
  ⟨h.1, fun hn => by
    obtain ⟨b, o, ea, hlt, ht, hc⟩ := h.2 hn
    refine ⟨b, o, ea, hlt, ?_, hc⟩
    rcases ht with ht | ht
    · exact .inl (by omega)
    · exact .inr ht⟩
theorem Reads.below (h : Reads w B e size A n xs) (hb : Below w.heap.size w w') : Reads w' B e size A n xs := h.to hb
/-- a store into a block of the call's own, of another element type -/
theorem Reads.far (h : Reads w B e size A n xs) {g : Nat} {t : TypeId} {cs : Array Value} (k : Blk w g t cs) (hg : B ≤ g) (hne : e ≠ t) (i : Nat) (u : Value) : Reads (w.setCell ⟨g, i, none⟩ u) B e size A n xs :=
  ⟨h.1, fun hn => by
    obtain ⟨b, o, ea, hlt, ht, hc⟩ := h.2 hn
    have hbg : b ≠ g := by
      rintro rfl
      rcases ht with ht | ⟨cs', fr, ht⟩
      · omega
      · unfold Blk at k; rw [k] at ht; injection ht with ht; injection ht with _ h2; exact hne h2.symm
    refine ⟨b, o, ea, by simpa [World.setCell] using hlt, ?_, fun j u' hu => (World.cell?_setCell_other w _ _ _ (fun ee => by injection ee with e1; exact hbg e1.symm)).trans (hc j u' hu)⟩
    rcases ht with ht | ⟨cs', fr, ht⟩
    · exact .inl ht
    · exact .inr ⟨cs', fr, (Below.heap_setCell w ⟨g, i, none⟩ u b hbg).trans ht⟩⟩
theorem Reads.cut (h : Reads w B e size A n xs) {k cap : Nat} (hk : k ≤ n) (hc : n ≤ cap) :
    Reads w B e size (if cap = k then A else A.map (·.add (k * size))) (n - k) (xs.drop (k * size)) := by
  refine ⟨by rw [List.length_drop, h.1, Nat.sub_mul], fun hn => ?_⟩
  obtain ⟨b, o, rfl, hb, ht, hcell⟩ := h.2 (by omega)
  rw [if_neg (by omega)]
  refine ⟨b, o + k * size, by simp [add_plain], hb, ht, fun j u hu => ?_⟩
  rw [Nat.add_assoc]
  exact hcell _ u (by rw [← hu, List.getElem?_drop])
theorem Reads.of_own {base : Nat} {c : Nat} (h : w.ownsRow base e size (.slice A n c) n xs) : Reads w B e size A n xs := by
  refine ⟨h.1, fun hn => ?_⟩
  rcases h.2 with ⟨hv, h0⟩ | ⟨g, cap, cur, hv, _, hh, hr⟩
  · omega
  · have hA : A = some ⟨g, 0, none⟩ := by injection hv
    subst hA
    have hlt : g < w.heap.size := by
      rcases Nat.lt_or_ge g w.heap.size with hlt | hge
      · exact hlt
      · rw [Array.getElem?_eq_none hge] at hh; cases hh
    exact ⟨g, 0, rfl, hlt, .inr ⟨cur, _, hh⟩, fun j u hu => by have := h.cells (g := g) rfl j u hu; rwa [add_plain] at this⟩
end

/-- A slice of ints. -/
def vint (x : Int) : Value := .int .i64 x
def Ints (w : World) (B : Nat) (A : Option Addr) (n : Nat) (xs : List Int) : Prop := Reads w B 3 1 A n (xs.map vint)

section
variable {w w' : World} {B B' n : Nat} {A : Option Addr} {xs : List Int}
theorem Ints.len (h : Ints w B A n xs) : xs.length = n := by simpa using h.1
theorem Ints.at_ {k : Nat} (h : Ints w B A n xs) (hk : k < n) :
    ∃ b o x, A = some ⟨b, o, none⟩ ∧ b < w.heap.size ∧ Hid (xs.drop k = x :: xs.drop (k + 1)) ∧ w.cell? ⟨b, o + k, none⟩ = some (.int .i64 x) := by
  obtain ⟨b, o, e, hb, _, hc⟩ := h.2 (by omega)
  have hl : k < xs.length := by have := h.len; omega
  exact ⟨b, o, xs[k], e, hb, List.drop_eq_getElem_cons hl, hc k _ (by simp [hl, vint])⟩
theorem Ints.to (h : Ints w B A n xs) (hb : Below w.heap.size w w') : Ints w' B A n xs := Reads.to h hb
theorem Ints.below (h : Ints w B A n xs) (hb : Below w.heap.size w w') : Ints w' B A n xs := Reads.to h hb
theorem Ints.more (h : Ints w B A n xs) (hB : B ≤ B') : Ints w B' A n xs := Reads.more h hB
theorem Ints.end_ {k : Nat} (h : Ints w B A n xs) (hk : k ≤ n) (hlt : ¬ k < n) : xs.drop k = [] := by
  have := h.len
  exact List.drop_eq_nil_of_le (by omega)
end

/-- behind a call that turned nothing below the heap's size: the walk uses both rules by itself -/
theorem bcell {W w1 : World} (hb : Below W.heap.size W w1) : (∀ b o, b < W.heap.size → w1.cell? ⟨b, o, none⟩ = W.cell? ⟨b, o, none⟩) ∧ (∀ b o, b < W.heap.size → w1.frozen? ⟨b, o, none⟩ = W.frozen? ⟨b, o, none⟩) :=
  ⟨fun b o h => hb.cell (p := ⟨b, o, none⟩) h, fun b o h => hb.frozen (p := ⟨b, o, none⟩) h⟩
/-- behind a call: what is known of the world that it leaves -/
theorem after {w W w1 : World} (hb : Below W.heap.size W w1) (q : Below w.heap.size w W) :
    Below w.heap.size w w1 ∧ W.heap.size ≤ w1.heap.size ∧ (∀ b o, b < W.heap.size → w1.cell? ⟨b, o, none⟩ = W.cell? ⟨b, o, none⟩) ∧ (∀ b o, b < W.heap.size → w1.frozen? ⟨b, o, none⟩ = W.frozen? ⟨b, o, none⟩) :=
  ⟨q.trans (hb.mono q.size), hb.size, (bcell hb).1, (bcell hb).2⟩
theorem ret_bool {a b : Bool} (h : a = b) : Ending.returned (.bool a) = .returned (.bool b) := by rw [h]
theorem ret_int {k : IntKind} {a b : Int} (h : a = b) : Ending.returned (.int k a) = .returned (.int k b) := by rw [h]

end Go.Proofs.YtnaindoeihnmpaaDoor
