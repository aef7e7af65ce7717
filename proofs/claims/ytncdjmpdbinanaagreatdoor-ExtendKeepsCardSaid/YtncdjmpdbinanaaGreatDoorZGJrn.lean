/-
  WHAT IS PROVED HERE: plain lemmas on memory that all walks of this seat use (a slice that reads as a list of ints, through new blocks and draws). No condition.
  WHAT IS PROVED HERE: logs as data (records of two ints and a text behind a place), what journal.Right and the reference's Right hand back. Conditions: the records' slice is of at most 2^47 elements.
  WHAT IS PROVED HERE: what journal's Last, TermAt, Newer and the reference's Last, Term, Newer hand back. Conditions: the records' slice is of at most 2^47 elements; where the reference is called, the log's numbers are within those of a log that may be.
  WHAT IS PROVED HERE: what journal.Newer hands back. Condition: the records' slice is of at most 2^47 elements.
  WHAT IS PROVED HERE: a body's post under a name that the walk does not open (a panic is shown not to be). No condition.
  WHAT IS PROVED HERE: what the functions of layer 16 that only read slices of ints hand back: Right (both texts), In, slices.Index, slices.Contains, Ints, the reference's Wins and Next. Conditions: the slices hold ints and are of at most 2^47 elements.
-/
import Derived.Test.YtncdjmpdbinanaaGreatDoorRows
import Derived.WalkKit
import Derived.Lib.Hide
import Derived.Handy
import Derived.BigQuiet
import Derived.Deep.QuietTactic
import Derived.Deep.RegionWith
import Derived.Deep.RegionHeld3
import Derived.StillTailTactics
import Derived.Deep.DeepFit
import Derived.Deep.AppendLies
import Derived.Deep.Draws
import Derived.WalkSmall
import Derived.Laws.Rows
import Derived.WalkLawsBesides
import Derived.WalkSpells
import Derived.Lib.MinMax
namespace Go.Proofs.YtncdjmpdbinanaaGreatDoor
open Go.RowKit

theorem hid_mk {p : Prop} (h : p) : Hid p := h

theorem add_plain (b o n : Nat) : (⟨b, o, none⟩ : Addr).add n = ⟨b, o + n, none⟩ := by
  unfold Addr.add
  by_cases h : n = 0 <;> simp [h]

/-- The slice value '.slice A n _' holds the cells xs ('size' cells an element of type e), in a block that is there, and that lies below B (B: where the heap ended when all began) or is a row of elements of type e. -/
def Reads (w : World) (B : Nat) (e : TypeId) (size : Nat) (A : Option Addr) (n : Nat) (xs : List Value) : Prop :=
  xs.length = n * size ∧ (0 < n → ∃ b o, A = some ⟨b, o, none⟩ ∧ b < w.heap.size ∧ (b < B ∨ ∃ cs fr, w.heap[b]? = some (.cells cs e fr)) ∧ ∀ j u, xs[j]? = some u → w.cell? ⟨b, o + j, none⟩ = some u)

/-- Block g is just the cells cs of element type t, none frozen. -/
def Blk (w : World) (g : Nat) (t : TypeId) (cs : Array Value) : Prop := w.heap[g]? = some (.cells cs t (0, 0))

section
variable {w w' : World} {g : Nat} {t : TypeId} {cs : Array Value}
theorem Blk.lt (h : Blk w g t cs) : g < w.heap.size := by
  rcases Nat.lt_or_ge g w.heap.size with hlt | hge
  · exact hlt
  · unfold Blk at h; rw [Array.getElem?_eq_none hge] at h; cases h
theorem Blk.cell (h : Blk w g t cs) (i : Nat) : w.cell? ⟨g, i, none⟩ = cs[i]? := cell_of_row w g i cs t (0, 0) h
theorem Blk.frozen (h : Blk w g t cs) (i : Nat) : w.frozen? ⟨g, i, none⟩ = false := by
  unfold Blk at h
  simp [World.frozen?, h]
theorem Blk.new (w : World) (t : TypeId) (cs : Array Value) : Blk (w.alloc (.cells cs t)) w.heap.size t cs := heap_alloc_new w _
theorem Blk.drew (h : Blk w g t cs) : Blk w.drew g t cs := h
theorem Blk.set_ (h : Blk w g t cs) (i : Nat) (u : Value) : Blk (w.setCell ⟨g, i, none⟩ u) g t (cs.setIfInBounds i u) := by
  unfold Blk at h ⊢
  simp [World.setCell, Array.getElem?_modify, h]
theorem Blk.far (h : Blk w g t cs) {p : Addr} (hp : g ≠ p.block) (u : Value) : Blk (w.setCell p u) g t cs := (Below.heap_setCell w p u g hp).trans h
theorem Blk.keep (h : Blk w g t cs) (hb : Below w.heap.size w w') : Blk w' g t cs := (hb.block g h.lt).trans h
theorem Blk.alloc (h : Blk w g t cs) (o : Obj) : Blk (w.alloc o) g t cs := (Below.heap_alloc w o g h.lt).trans h
theorem Blk.grown {row : Option Nat} (h : Blk w g t cs) (hb : w.grownBy w' row) (hg : some g ≠ row) : Blk w' g t cs := (hb.block g h.lt hg).trans h
theorem Blk.ne_ {g' : Nat} {t' : TypeId} {cs' : Array Value} (h : Blk w g t cs) (h' : Blk w g' t' cs') (hne : t ≠ t') : g ≠ g' := by
  rintro rfl
  unfold Blk at h h'
  rw [h] at h'
  injection h' with h'
  injection h' with _ ht
  exact hne ht
end

theorem blk3 {w : World} {g : Nat} {t : TypeId} {a b c : Value} (h : Blk w g t #[a, b, c]) :
    g < w.heap.size ∧ w.cell? ⟨g, 0, none⟩ = some a ∧ w.cell? ⟨g, 1, none⟩ = some b ∧ w.cell? ⟨g, 2, none⟩ = some c := ⟨h.lt, h.cell 0, h.cell 1, h.cell 2⟩

section
variable {w w' : World} {B B' size n : Nat} {e : TypeId} {A : Option Addr} {xs : List Value}
theorem Reads.none_ : Reads w B e size A 0 [] := ⟨by simp, fun h => absurd h (by omega)⟩
theorem Reads.to (h : Reads w B e size A n xs) (hb : Below w.heap.size w w') : Reads w' B e size A n xs :=
  ⟨h.1, fun hn => by
    obtain ⟨b, o, ea, hlt, ht, hc⟩ := h.2 hn
    refine ⟨b, o, ea, Nat.lt_of_lt_of_le hlt hb.size, ?_, fun j u hu => (hb.cell (p := ⟨b, o + j, none⟩) hlt).trans (hc j u hu)⟩
    rcases ht with ht | ⟨cs, fr, ht⟩
    · exact .inl ht
    · exact .inr ⟨cs, fr, (hb.block b hlt).trans ht⟩⟩
theorem Reads.more (h : Reads w B e size A n xs) (hB : B ≤ B') : Reads w B' e size A n xs :=
  ⟨h.1, fun hn => by
    obtain ⟨b, o, ea, hlt, ht, hc⟩ := h.2 hn
    refine ⟨b, o, ea, hlt, ?_, hc⟩
    rcases ht with ht | ht
    · exact .inl (by omega)
    · exact .inr ht⟩
theorem Reads.below (h : Reads w B e size A n xs) (hb : Below w.heap.size w w') : Reads w' B e size A n xs := h.to hb
/-- a store into a block of the call's own, of another element type -/
theorem Reads.far (h : Reads w B e size A n xs) {g : Nat} {t : TypeId} {cs : Array Value} (k : Blk w g t cs) (hg : B ≤ g) (hne : e ≠ t) (i : Nat) (u : Value) : Reads (w.setCell ⟨g, i, none⟩ u) B e size A n xs :=
  ⟨h.1, fun hn => by
    obtain ⟨b, o, ea, hlt, ht, hc⟩ := h.2 hn
    have hbg : b ≠ g := by
      rintro rfl
      rcases ht with ht | ⟨cs', fr, ht⟩
      · omega
      · unfold Blk at k; rw [k] at ht; injection ht with ht; injection ht with _ h2; exact hne h2.symm
    refine ⟨b, o, ea, by simpa [World.setCell] using hlt, ?_, fun j u' hu => (World.cell?_setCell_other w _ _ _ (fun ee => by injection ee with e1; exact hbg e1.symm)).trans (hc j u' hu)⟩
    rcases ht with ht | ⟨cs', fr, ht⟩
    · exact .inl ht
    · exact .inr ⟨cs', fr, (Below.heap_setCell w ⟨g, i, none⟩ u b hbg).trans ht⟩⟩
theorem Reads.cut (h : Reads w B e size A n xs) {k cap : Nat} (hk : k ≤ n) (hc : n ≤ cap) :
    Reads w B e size (if cap = k then A else A.map (·.add (k * size))) (n - k) (xs.drop (k * size)) := by
  refine ⟨by rw [List.length_drop, h.1, Nat.sub_mul], fun hn => ?_⟩
  obtain ⟨b, o, rfl, hb, ht, hcell⟩ := h.2 (by omega)
  rw [if_neg (by omega)]
  refine ⟨b, o + k * size, by simp [add_plain], hb, ht, fun j u hu => ?_⟩
  rw [Nat.add_assoc]
  exact hcell _ u (by rw [← hu, List.getElem?_drop])
theorem Reads.of_own {base : Nat} {c : Nat} (h : w.ownsRow base e size (.slice A n c) n xs) : Reads w B e size A n xs := by
  refine ⟨h.1, fun hn => ?_⟩
  rcases h.2 with ⟨hv, h0⟩ | ⟨g, cap, cur, hv, _, hh, hr⟩
  · omega
  · have hA : A = some ⟨g, 0, none⟩ := by injection hv
    subst hA
    have hlt : g < w.heap.size := by
      rcases Nat.lt_or_ge g w.heap.size with hlt | hge
      · exact hlt
      · rw [Array.getElem?_eq_none hge] at hh; cases hh
    exact ⟨g, 0, rfl, hlt, .inr ⟨cur, _, hh⟩, fun j u hu => by have := h.cells (g := g) rfl j u hu; rwa [add_plain] at this⟩
end

/-- A slice of ints. -/
def vint (x : Int) : Value := .int .i64 x
def Ints (w : World) (B : Nat) (A : Option Addr) (n : Nat) (xs : List Int) : Prop := Reads w B 3 1 A n (xs.map vint)

section
variable {w w' : World} {B B' n : Nat} {A : Option Addr} {xs : List Int}
theorem Ints.len (h : Ints w B A n xs) : xs.length = n := by simpa using h.1
theorem Ints.at_ {k : Nat} (h : Ints w B A n xs) (hk : k < n) :
    ∃ b o x, A = some ⟨b, o, none⟩ ∧ b < w.heap.size ∧ Hid (xs.drop k = x :: xs.drop (k + 1)) ∧ w.cell? ⟨b, o + k, none⟩ = some (.int .i64 x) := by
  obtain ⟨b, o, e, hb, _, hc⟩ := h.2 (by omega)
  have hl : k < xs.length := by have := h.len; omega
  exact ⟨b, o, xs[k], e, hb, List.drop_eq_getElem_cons hl, hc k _ (by simp [hl, vint])⟩
theorem Ints.to (h : Ints w B A n xs) (hb : Below w.heap.size w w') : Ints w' B A n xs := Reads.to h hb
theorem Ints.below (h : Ints w B A n xs) (hb : Below w.heap.size w w') : Ints w' B A n xs := Reads.to h hb
theorem Ints.more (h : Ints w B A n xs) (hB : B ≤ B') : Ints w B' A n xs := Reads.more h hB
theorem Ints.end_ {k : Nat} (h : Ints w B A n xs) (hk : k ≤ n) (hlt : ¬ k < n) : xs.drop k = [] := by
  have := h.len
  exact List.drop_eq_nil_of_le (by omega)
end

/-- behind a call that turned nothing below the heap's size: the walk uses both rules by itself -/
theorem bcell {W w1 : World} (hb : Below W.heap.size W w1) : (∀ b o, b < W.heap.size → w1.cell? ⟨b, o, none⟩ = W.cell? ⟨b, o, none⟩) ∧ (∀ b o, b < W.heap.size → w1.frozen? ⟨b, o, none⟩ = W.frozen? ⟨b, o, none⟩) :=
  ⟨fun b o h => hb.cell (p := ⟨b, o, none⟩) h, fun b o h => hb.frozen (p := ⟨b, o, none⟩) h⟩
/-- behind a call: what is known of the world that it leaves -/
theorem after {w W w1 : World} (hb : Below W.heap.size W w1) (q : Below w.heap.size w W) :
    Below w.heap.size w w1 ∧ W.heap.size ≤ w1.heap.size ∧ (∀ b o, b < W.heap.size → w1.cell? ⟨b, o, none⟩ = W.cell? ⟨b, o, none⟩) ∧ (∀ b o, b < W.heap.size → w1.frozen? ⟨b, o, none⟩ = W.frozen? ⟨b, o, none⟩) :=
  ⟨q.trans (hb.mono q.size), hb.size, (bcell hb).1, (bcell hb).2⟩
theorem ret_bool {a b : Bool} (h : a = b) : Ending.returned (.bool a) = .returned (.bool b) := by rw [h]
theorem ret_int {k : IntKind} {a b : Int} (h : a = b) : Ending.returned (.int k a) = .returned (.int k b) := by rw [h]

end Go.Proofs.YtncdjmpdbinanaaGreatDoor
namespace Go.Proofs.YtncdjmpdbinanaaGreatDoor
open Go.RowKit

structure Rec where
  t : Int
  k : Int
  d : ByteArray
structure Lg where
  base : Int
  bt : Int
  rs : List Rec

def recCells (r : Rec) : List Value := [.int .i64 r.t, .int .i64 r.k, .string r.d]
def cellsOf (rs : List Rec) : List Value := rs.flatMap recCells
def Recs (w : World) (B : Nat) (A : Option Addr) (n : Nat) (rs : List Rec) : Prop := Reads w B 51 3 A n (cellsOf rs)
def logV (l : Lg) (A : Option Addr) (n cap : Nat) : Value := .agg #[.int .i64 l.base, .int .i64 l.bt, .slice A n cap]

theorem cellsOf_len : ∀ rs : List Rec, (cellsOf rs).length = rs.length * 3
  | [] => rfl
  | r :: rs => by
    have := cellsOf_len rs
    unfold cellsOf at *
    simp only [List.flatMap_cons, List.length_append, List.length_cons, this, recCells, List.length_nil]
    omega
theorem cellsOf_at : ∀ (rs : List Rec) (k : Nat) (r : Rec), rs[k]? = some r → (cellsOf rs)[k * 3]? = some (.int .i64 r.t) ∧ (cellsOf rs)[k * 3 + 1]? = some (.int .i64 r.k) ∧ (cellsOf rs)[k * 3 + 2]? = some (.string r.d)
  | r :: rs, 0, r', h => by
    simp only [List.getElem?_cons_zero, Option.some.injEq] at h
    subst h
    simp [cellsOf, recCells]
  | r :: rs, k + 1, r', h => by
    have ih := cellsOf_at rs k r' (by simpa using h)
    have e : ∀ j, (cellsOf (r :: rs))[j + 3]? = (cellsOf rs)[j]? := by
      intro j
      simp [cellsOf, recCells]
    rw [show (k + 1) * 3 = k * 3 + 3 from by omega, show k * 3 + 3 + 1 = k * 3 + 1 + 3 from by omega, show k * 3 + 3 + 2 = k * 3 + 2 + 3 from by omega, e, e, e]
    exact ih
section
variable {w w' : World} {B B' n : Nat} {A : Option Addr} {rs : List Rec}
theorem Recs.len (h : Recs w B A n rs) : rs.length = n := by
  have := h.1
  rw [cellsOf_len] at this
  omega
theorem Recs.at_ {k : Nat} (h : Recs w B A n rs) (hk : k < n) :
    ∃ b o r, A = some ⟨b, o, none⟩ ∧ b < w.heap.size ∧ Hid (rs.drop k = r :: rs.drop (k + 1)) ∧ w.cell? ⟨b, o + k * 3, none⟩ = some (.int .i64 r.t) ∧ w.cell? ⟨b, o + k * 3 + 1, none⟩ = some (.int .i64 r.k) ∧ w.cell? ⟨b, o + k * 3 + 2, none⟩ = some (.string r.d) := by
  obtain ⟨b, o, e, hb, _, hc⟩ := h.2 (by omega)
  have hl : k < rs.length := by have := h.len; omega
  obtain ⟨c0, c1, c2⟩ := cellsOf_at rs k rs[k] (List.getElem?_eq_getElem hl)
  exact ⟨b, o, rs[k], e, hb, List.drop_eq_getElem_cons hl, hc _ _ c0, hc _ _ c1, hc _ _ c2⟩
theorem Recs.below (h : Recs w B A n rs) (hb : Below w.heap.size w w') : Recs w' B A n rs := Reads.to h hb
theorem Recs.to (h : Recs w B A n rs) (hb : Below w.heap.size w w') : Recs w' B A n rs := Reads.to h hb
theorem Recs.more (h : Recs w B A n rs) (hB : B ≤ B') : Recs w B' A n rs := Reads.more h hB
theorem Recs.end_ {k : Nat} (h : Recs w B A n rs) (hlt : ¬ k < n) : rs.drop k = [] := by
  have := h.len
  exact List.drop_eq_nil_of_le (by omega)
end

/-- is the number within? -/
def inB (n lo hi : Int) : Bool := decide (lo ≤ n) && decide (n ≤ hi)
/-- may these records follow a term? -/
def okRecs (term : Int) : List Rec → Bool
  | [] => true
  | r :: rs => if inB r.t term 1073741824 && inB r.k 0 2 && decide (r.d.size ≤ 8192) then okRecs r.t rs else false
def rightJ (l : Lg) : Bool :=
  inB l.base 0 1073741824 && inB l.bt 0 1073741824 && (l.base == 0) == (l.bt == 0) && decide (l.rs.length ≤ 200) && decide (l.base + l.rs.length ≤ 1073741824) && okRecs (max l.bt 1) l.rs

theorem within_any (n lo hi : Int) (w : World) : Calls Tryz.prog 138 #[.int .i64 n, .int .i64 lo, .int .i64 hi] w fun e w' => e = .returned (.bool (inB n lo hi)) ∧ w = w' := by
  by_cases h1 : lo ≤ n
  · go_enter Tryz.func138, Tryz.ntmps138
    go_wp2
    go_ret
    exact ⟨ret_bool (by simp [inB, h1]), rfl⟩
  · have h2 : decide (lo ≤ n) = false := by simpa using h1
    go_enter Tryz.func138, Tryz.ntmps138
    go_wp2
    go_ret
    exact ⟨ret_bool (by unfold inB; rw [h2]; rfl), rfl⟩

set_option maxHeartbeats 1600000 in
theorem Right_any (l : Lg) (A : Option Addr) (n cap : Nat) (w : World) {B : Nat} (hm : n ≤ 140737488355328) (h : Recs w B A n l.rs) :
    Calls Tryz.prog 103 #[logV l A n cap] w fun e w' => e = .returned (.bool (rightJ l)) ∧ Below w.heap.size w w' := by
  obtain ⟨base, bt, rs⟩ := l
  have hlen := hid_mk h.len
  have hB0 : Below w.heap.size w (w.alloc (.cells #[.int .i64 base, .int .i64 bt, .slice A n cap] 24)) := (Below.refl _ w).alloc (Nat.le_refl _) _
  unfold logV
  dsimp only at *
  go_enter Tryz.func103, Tryz.ntmps103
  go_wp2_with fail
  refine (within_any _ _ _ _).mono ?_
  rintro e w' ⟨rfl, rfl⟩
  cases h1 : inB base 0 1073741824
  · replace h1 := hid_mk h1
    go_wp2
    go_ret
    exact ⟨ret_bool (by simp [rightJ, h1.out]), hB0⟩
  have hb1 : 0 ≤ base ∧ base ≤ 1073741824 := by simpa [inB] using h1
  replace h1 := hid_mk h1
  go_wp2_with fail
  refine (within_any _ _ _ _).mono ?_
  rintro e w' ⟨rfl, rfl⟩
  cases h2 : inB bt 0 1073741824
  · replace h2 := hid_mk h2
    go_wp2
    go_ret
    exact ⟨ret_bool (by simp [rightJ, h2.out]), hB0⟩
  have hb2 : 0 ≤ bt ∧ bt ≤ 1073741824 := by simpa [inB] using h2
  replace h2 := hid_mk h2
  by_cases h3 : (base == 0) = (bt == 0)
  case neg =>
    have h3' : ((base == 0) == (bt == 0)) = false := by simpa using h3
    replace h3' := hid_mk h3'
    cases hx : (base == 0) <;> cases hy : (bt == 0) <;> simp only [hx, hy, not_true_eq_false] at h3
    all_goals
      clear h3
      go_wp2
      go_ret
      exact ⟨ret_bool (by unfold rightJ; rw [h3'.out]; simp), hB0⟩
  obtain ⟨z, hz⟩ : ∃ z, (bt == 0) = z := ⟨_, rfl⟩
  rw [hz] at h3
  have h3' : Hid (((base == 0) == (bt == 0)) = true) := by rw [h3, hz]; simp [Hid]
  by_cases h4 : 200 < n
  · go_wp2
    go_ret
    exact ⟨ret_bool (by unfold rightJ; rw [hlen.out, show decide (n ≤ 200) = false from by simp; omega]; simp), hB0⟩
  by_cases h5 : 1073741824 - (n : Int) < base
  · go_wp2
    go_ret
    exact ⟨ret_bool (by unfold rightJ; rw [hlen.out, show decide (base + n ≤ 1073741824) = false from by simp; omega]; simp), hB0⟩
  have hr : Hid (rightJ ⟨base, bt, rs⟩ = okRecs (max bt 1) rs) := by
    unfold Hid rightJ
    rw [hlen.out, show decide (n ≤ 200) = true from by simp; omega, show decide (base + n ≤ 1073741824) = true from by simp; omega, h1.out, h2.out, h3'.out]
    rfl
  clear h1 h2 h3'
  have hmx : 1 ≤ max bt 1 ∧ max bt 1 ≤ 1073741824 := by omega
  go_wp2
  clear h3 hz
  go_loopw [3, 46] (fun t i wr => ∃ (k : Nat) (term : Int), k ≤ n ∧ i = .int .i64 k ∧ t = .int .i64 term ∧ Below w.heap.size w wr ∧ Hid (rightJ ⟨base, bt, rs⟩ = okRecs term (rs.drop k))) (fun _ i _ => n - (intOf i).toNat)
  case atStart => exact ⟨0, _, Nat.zero_le _, rfl, rfl, hB0, hr⟩
  case round =>
    obtain ⟨k, term, hk, rfl, rfl, hb, hn⟩ := hrel
    by_cases hlt : k < n
    · obtain ⟨b, o, r, rfl, hbb, hd, ct, ck, cd⟩ := (h.below hb).at_ hlt
      have hb2 : Below w.heap.size w (wr.alloc (.cells #[.int .i64 r.t, .int .i64 r.k, .string r.d] 51)) := hb.alloc hb.size _
      obtain ⟨rt, rk, rd⟩ := r
      dsimp only at *
      go_wp2_with fail
      refine (within_any _ _ _ _).mono ?_
      rintro e w' ⟨rfl, rfl⟩
      cases g1 : inB rt term 1073741824
      · replace g1 := hid_mk g1
        go_wp2
        go_ret
        exact ⟨ret_bool (by rw [hn.out, hd.out]; simp [okRecs, g1.out]), hb2⟩
      have gb1 : term ≤ rt ∧ rt ≤ 1073741824 := by simpa [inB] using g1
      replace g1 := hid_mk g1
      go_wp2_with fail
      refine (within_any _ _ _ _).mono ?_
      rintro e w' ⟨rfl, rfl⟩
      cases g2 : inB rk 0 2
      · replace g2 := hid_mk g2
        go_wp2
        go_ret
        exact ⟨ret_bool (by rw [hn.out, hd.out]; simp [okRecs, g2.out]), hb2⟩
      replace g2 := hid_mk g2
      by_cases g3 : 8192 < rd.size
      · go_wp2
        go_ret
        exact ⟨ret_bool (by rw [hn.out, hd.out]; simp [okRecs]; omega), hb2⟩
      go_wp2
      go_roundw
      case rel => exact ⟨k + 1, rt, by omega, by go_num, rfl, hb2, by rw [Hid, hn.out, hd.out]; simp [okRecs, g1.out, g2.out]; omega⟩
      case measure => simp [intOf]; omega
    · have he := hid_mk (h.end_ hlt)
      go_wp2
      go_ret
      exact ⟨ret_bool (by rw [hn.out, he.out]; rfl), hb⟩
theorem refIn_any (n lo hi : Int) (w : World) : Calls Tryz.prog 162 #[.int .i64 n, .int .i64 lo, .int .i64 hi] w fun e w' => e = .returned (.bool (inB n lo hi)) ∧ w = w' := by
  by_cases h1 : lo ≤ n
  · go_enter Tryz.func162, Tryz.ntmps162
    go_wp2
    go_ret
    exact ⟨ret_bool (by simp [inB, h1]), rfl⟩
  · have h2 : decide (lo ≤ n) = false := by simpa using h1
    go_enter Tryz.func162, Tryz.ntmps162
    go_wp2
    go_ret
    exact ⟨ret_bool (by unfold inB; rw [h2]; rfl), rfl⟩

set_option maxHeartbeats 1600000 in
theorem refRight_any (l : Lg) (A : Option Addr) (n cap : Nat) (w : World) {B : Nat} (hm : n ≤ 140737488355328) (h : Recs w B A n l.rs) :
    Calls Tryz.prog 137 #[logV l A n cap] w fun e w' => e = .returned (.bool (rightJ l)) ∧ Below w.heap.size w w' := by
  obtain ⟨base, bt, rs⟩ := l
  have hlen := hid_mk h.len
  have hB0 : Below w.heap.size w (w.alloc (.cells #[.int .i64 base, .int .i64 bt, .slice A n cap] 24)) := (Below.refl _ w).alloc (Nat.le_refl _) _
  unfold logV
  dsimp only at *
  go_enter Tryz.func137, Tryz.ntmps137
  go_wp2_with fail
  refine (refIn_any _ _ _ _).mono ?_
  rintro e w' ⟨rfl, rfl⟩
  cases h1 : inB base 0 1073741824
  · replace h1 := hid_mk h1
    go_wp2
    go_ret
    exact ⟨ret_bool (by simp [rightJ, h1.out]), hB0⟩
  have hb1 : 0 ≤ base ∧ base ≤ 1073741824 := by simpa [inB] using h1
  replace h1 := hid_mk h1
  go_wp2_with fail
  refine (refIn_any _ _ _ _).mono ?_
  rintro e w' ⟨rfl, rfl⟩
  cases h2 : inB bt 0 1073741824
  · replace h2 := hid_mk h2
    go_wp2
    go_ret
    exact ⟨ret_bool (by simp [rightJ, h2.out]), hB0⟩
  have hb2 : 0 ≤ bt ∧ bt ≤ 1073741824 := by simpa [inB] using h2
  replace h2 := hid_mk h2
  by_cases h3 : (base == 0) = (bt == 0)
  case neg =>
    have h3' : ((base == 0) == (bt == 0)) = false := by simpa using h3
    replace h3' := hid_mk h3'
    cases hx : (base == 0) <;> cases hy : (bt == 0) <;> simp only [hx, hy, not_true_eq_false] at h3
    all_goals
      clear h3
      go_wp2
      go_ret
      exact ⟨ret_bool (by unfold rightJ; rw [h3'.out]; simp), hB0⟩
  obtain ⟨z, hz⟩ : ∃ z, (bt == 0) = z := ⟨_, rfl⟩
  rw [hz] at h3
  have h3' : Hid (((base == 0) == (bt == 0)) = true) := by rw [h3, hz]; simp [Hid]
  by_cases h4 : 200 < n
  · go_wp2
    go_ret
    exact ⟨ret_bool (by unfold rightJ; rw [hlen.out, show decide (n ≤ 200) = false from by simp; omega]; simp), hB0⟩
  by_cases h5 : 1073741824 - (n : Int) < base
  · go_wp2
    go_ret
    exact ⟨ret_bool (by unfold rightJ; rw [hlen.out, show decide (base + n ≤ 1073741824) = false from by simp; omega]; simp), hB0⟩
  have hr : Hid (rightJ ⟨base, bt, rs⟩ = okRecs (max bt 1) rs) := by
    unfold Hid rightJ
    rw [hlen.out, show decide (n ≤ 200) = true from by simp; omega, show decide (base + n ≤ 1073741824) = true from by simp; omega, h1.out, h2.out, h3'.out]
    rfl
  clear h1 h2 h3'
  go_wp2
  clear h3 hz
  go_loopw [3, 45] (fun t i wr => ∃ (k : Nat) (term : Int), k ≤ n ∧ i = .int .i64 k ∧ t = .int .i64 term ∧ Below w.heap.size w wr ∧ Hid (rightJ ⟨base, bt, rs⟩ = okRecs (max term 1) (rs.drop k))) (fun _ i _ => n - (intOf i).toNat)
  case atStart => exact ⟨0, _, Nat.zero_le _, rfl, rfl, hB0, hr⟩
  case round =>
    obtain ⟨k, term, hk, rfl, rfl, hb, hn⟩ := hrel
    by_cases hlt : k < n
    · obtain ⟨b, o, r, rfl, hbb, hd, ct, ck, cd⟩ := (h.below hb).at_ hlt
      have hb2 : Below w.heap.size w (wr.alloc (.cells #[.int .i64 r.t, .int .i64 r.k, .string r.d] 51)) := hb.alloc hb.size _
      obtain ⟨rt, rk, rd⟩ := r
      dsimp only at *
      by_cases q1 : rt < 1
      · go_wp2
        go_ret
        exact ⟨ret_bool (by rw [hn.out, hd.out]; unfold okRecs inB; rw [if_neg (by simp; omega)]), hb2⟩
      by_cases q2 : rt < term
      · go_wp2
        go_ret
        exact ⟨ret_bool (by rw [hn.out, hd.out]; unfold okRecs inB; rw [if_neg (by simp; omega)]), hb2⟩
      by_cases q3 : 1073741824 < rt
      · go_wp2
        go_ret
        exact ⟨ret_bool (by rw [hn.out, hd.out]; unfold okRecs inB; rw [if_neg (by simp; omega)]), hb2⟩
      have g1 : inB rt (max term 1) 1073741824 = true := by simp [inB]; omega
      replace g1 := hid_mk g1
      go_wp2_with fail
      refine (refIn_any _ _ _ _).mono ?_
      rintro e w' ⟨rfl, rfl⟩
      cases g2 : inB rk 0 2
      · replace g2 := hid_mk g2
        go_wp2
        go_ret
        exact ⟨ret_bool (by rw [hn.out, hd.out]; simp [okRecs, g2.out]), hb2⟩
      replace g2 := hid_mk g2
      by_cases g3 : 8192 < rd.size
      · go_wp2
        go_ret
        exact ⟨ret_bool (by rw [hn.out, hd.out]; simp [okRecs]; omega), hb2⟩
      go_wp2
      go_roundw
      case rel => exact ⟨k + 1, rt, by omega, by go_num, rfl, hb2, by rw [Hid, hn.out, hd.out, show max rt 1 = rt from by omega]; simp [okRecs, g1.out, g2.out]; omega⟩
      case measure => simp [intOf]; omega
    · have he := hid_mk (h.end_ hlt)
      go_wp2
      go_ret
      exact ⟨ret_bool (by rw [hn.out, he.out]; rfl), hb⟩
end Go.Proofs.YtncdjmpdbinanaaGreatDoor
namespace Go.Proofs.YtncdjmpdbinanaaGreatDoor
open Go.RowKit

def lastJ (l : Lg) : Int := l.base + l.rs.length
def termJ (l : Lg) (at' : Int) : Option Int :=
  if at' = l.base then some l.bt else if l.base < at' ∧ at' ≤ lastJ l then (l.rs[(at' - l.base - 1).toNat]?).map Rec.t else none

theorem right_bounds {l : Lg} (h : rightJ l = true) : 0 ≤ l.base ∧ l.base ≤ 1073741824 ∧ 0 ≤ l.bt ∧ l.bt ≤ 1073741824 ∧ l.rs.length ≤ 200 ∧ l.base + l.rs.length ≤ 1073741824 := by
  unfold rightJ inB at h
  simp only [Bool.and_eq_true, decide_eq_true_eq] at h
  omega

theorem logV_eq (l : Lg) (A : Option Addr) (n cap : Nat) : logV l A n cap = .agg #[.int .i64 l.base, .int .i64 l.bt, .slice A n cap] := rfl

theorem refLast_any (l : Lg) (A : Option Addr) (n cap : Nat) (w : World) (hm : n ≤ 140737488355328) (h : l.rs.length = n) (h0 : 0 ≤ l.base) (h1 : l.base ≤ 1073741824) :
    Calls Tryz.prog 48 #[logV l A n cap] w fun e w' => e = .returned (.int .i64 (lastJ l)) ∧ Below w.heap.size w w' := by
  obtain ⟨base, bt, rs⟩ := l
  unfold lastJ logV
  dsimp only at *
  rw [h]
  clear h
  go_enter Tryz.func48, Tryz.ntmps48
  go_wp2
  go_ret
  exact ⟨rfl, (Below.refl _ w).alloc (Nat.le_refl _) _⟩
theorem termJ_eq (l : Lg) : termJ l l.base = some l.bt := by simp [termJ]
theorem termJ_lt (l : Lg) {at' : Int} (h : at' < l.base) : termJ l at' = none := by
  unfold termJ; rw [if_neg (by omega), if_neg (by omega)]
theorem termJ_gt (l : Lg) {at' : Int} (h : l.base + l.rs.length < at') : termJ l at' = none := by
  unfold termJ lastJ; rw [if_neg (by omega), if_neg (by omega)]
theorem termJ_mid (l : Lg) {m : Nat} {r : Rec} (h : l.rs.drop m = r :: l.rs.drop (m + 1)) : termJ l (l.base + 1 + m) = some r.t := by
  have hk : m < l.rs.length := by
    rcases Nat.lt_or_ge m l.rs.length with h' | h'
    · exact h'
    · rw [List.drop_eq_nil_of_le h'] at h; cases h
  have h2 : l.rs[m]'hk = r := by rw [List.drop_eq_getElem_cons hk] at h; injection h
  unfold termJ lastJ
  rw [if_neg (by omega), if_pos (by omega), show (l.base + 1 + (m : Int) - l.base - 1).toNat = m from by omega, List.getElem?_eq_getElem hk, h2]
  rfl
theorem refTerm_any (l : Lg) (at' : Int) (A : Option Addr) (n cap : Nat) (w : World) {B : Nat} (hm : n ≤ 140737488355328) (h : Recs w B A n l.rs) (h0 : 0 ≤ l.base) (h1 : l.base ≤ 1073741824) :
    Calls Tryz.prog 91 #[logV l A n cap, .int .i64 at'] w fun e w' => e = .returned (.int .i64 ((termJ l at').getD (-1))) ∧ Below w.heap.size w w' := by
  have hlen := hid_mk h.len
  obtain ⟨base, bt, rs⟩ := l
  have hb0 : Below w.heap.size w (w.alloc (.cells #[.int .i64 base, .int .i64 bt, .slice A n cap] 24)) := (Below.refl _ w).alloc (Nat.le_refl _) _
  unfold logV
  dsimp only at *
  by_cases e : at' = base
  · subst e
    go_enter Tryz.func91, Tryz.ntmps91
    go_wp2
    go_ret
    exact ⟨ret_int (by simp [termJ]), hb0⟩
  have e1 : (at' == base) = false := by simpa using e
  have e := hid_mk e
  by_cases e2 : at' < base
  · go_enter Tryz.func91, Tryz.ntmps91
    go_wp2
    go_ret
    exact ⟨ret_int (by rw [termJ_lt ⟨base, bt, rs⟩ e2]; rfl), hb0⟩
  by_cases e3 : base + n < at'
  · go_enter Tryz.func91, Tryz.ntmps91
    go_wp2
    go_ret
    exact ⟨ret_int (by rw [termJ_gt ⟨base, bt, rs⟩ (by have := hlen.out; dsimp only; omega)]; rfl), hb0.alloc (by simp) _⟩
  obtain ⟨m, hm'⟩ : ∃ m : Nat, at' = base + 1 + m := ⟨(at' - base - 1).toNat, by have := e.out; omega⟩
  have hmn : m < n := by omega
  obtain ⟨b, o, r, rfl, hbb, hd, ct, ck, cd⟩ := h.at_ hmn
  have ct : w.cell? ⟨b, o + ((at' - base).toNat - 1) * 3, none⟩ = some (.int .i64 r.t) := by rw [show (at' - base).toNat - 1 = m by omega]; exact ct
  have hre := hid_mk (termJ_mid ⟨base, bt, rs⟩ hd.out)
  have g1 : base < at' := by omega
  replace hm' := hid_mk hm'
  go_enter Tryz.func91, Tryz.ntmps91
  go_wp2
  go_ret
  exact ⟨ret_int (by rw [hm'.out]; have := hre.out; rw [this]; rfl), hb0.alloc (by simp) _⟩
theorem vterm_any (l : Lg) (at' : Int) (A : Option Addr) (n cap : Nat) (w : World) {B : Nat} (hm : n ≤ 140737488355328) (h : Recs w B A n l.rs) (h0 : 0 ≤ l.base) (h1 : l.base ≤ 1073741824) :
    Calls Tryz.prog 104 #[logV l A n cap, .int .i64 at'] w fun e w' => e = .returned (.tuple #[.int .i64 ((termJ l at').getD 0), .bool (termJ l at').isSome]) ∧ Below w.heap.size w w' := by
  have hlen := hid_mk h.len
  obtain ⟨base, bt, rs⟩ := l
  have hb0 : Below w.heap.size w (w.alloc (.cells #[.int .i64 base, .int .i64 bt, .slice A n cap] 120)) := (Below.refl _ w).alloc (Nat.le_refl _) _
  unfold logV
  dsimp only at *
  by_cases e : at' = base
  · subst e
    have hz := hid_mk (termJ_eq ⟨at', bt, rs⟩)
    go_enter Tryz.func104, Tryz.ntmps104
    go_wp2
    go_ret2
    exact ⟨by rw [hz.out]; rfl, hb0⟩
  have e1 : (at' == base) = false := by simpa using e
  have e := hid_mk e
  by_cases e2 : at' < base
  · have e3 : decide (base < at') = false := by simp; omega
    have hz := hid_mk (termJ_lt ⟨base, bt, rs⟩ e2)
    go_enter Tryz.func104, Tryz.ntmps104
    go_wp2
    go_ret2
    exact ⟨by rw [hz.out]; rfl, hb0⟩
  by_cases e3 : base + n < at'
  · have hz := hid_mk (termJ_gt (at' := at') ⟨base, bt, rs⟩ (by have := hlen.out; dsimp only; omega))
    go_enter Tryz.func104, Tryz.ntmps104
    go_wp2
    go_ret2
    exact ⟨by rw [hz.out]; rfl, hb0.alloc (by simp) _⟩
  obtain ⟨m, hm'⟩ : ∃ m : Nat, at' = base + 1 + m := ⟨(at' - base - 1).toNat, by have := e.out; omega⟩
  have hmn : m < n := by omega
  obtain ⟨b, o, r, rfl, hbb, hd, ct, ck, cd⟩ := h.at_ hmn
  have ct : w.cell? ⟨b, o + ((at' - base).toNat - 1) * 3, none⟩ = some (.int .i64 r.t) := by rw [show (at' - base).toNat - 1 = m by omega]; exact ct
  have hre := hid_mk (termJ_mid ⟨base, bt, rs⟩ hd.out)
  have g1 : base < at' := by omega
  replace hm' := hid_mk hm'
  go_enter Tryz.func104, Tryz.ntmps104
  go_wp2
  go_ret2
  exact ⟨by rw [hm'.out]; have := hre.out; rw [this]; rfl, hb0.alloc (by simp) _⟩
theorem vlast_any (l : Lg) (A : Option Addr) (n cap : Nat) (w : World) (hm : n ≤ 140737488355328) (h : l.rs.length = n) (h0 : 0 ≤ l.base) (h1 : l.base ≤ 1073741824) :
    Calls Tryz.prog 105 #[logV l A n cap] w fun e w' => e = .returned (.int .i64 (lastJ l)) ∧ Below w.heap.size w w' := by
  obtain ⟨base, bt, rs⟩ := l
  unfold lastJ logV
  dsimp only at *
  rw [h]
  clear h
  go_enter Tryz.func105, Tryz.ntmps105
  go_wp2
  go_ret
  exact ⟨rfl, (Below.refl _ w).alloc (Nat.le_refl _) _⟩
set_option maxHeartbeats 400000 in
theorem Last_any (l : Lg) (A : Option Addr) (n cap : Nat) (w : World) {B : Nat} (hm : n ≤ 140737488355328) (h : Recs w B A n l.rs) :
    Calls Tryz.prog 36 #[logV l A n cap] w fun e w' => e = .returned (.tuple #[.int .i64 (if rightJ l then lastJ l else 0), .int .i64 (if rightJ l then (termJ l (lastJ l)).getD 0 else 0)]) ∧ Below w.heap.size w w' := by
  have hlen := hid_mk h.len
  cases hr : rightJ l
  · replace hr := hid_mk hr
    rw [logV_eq]
    go_enter Tryz.func36, Tryz.ntmps36
    go_wp2_with fail
    rw [← logV_eq]
    refine (Right_any l _ _ _ _ hm (h.to (by go_grown))).mono ?_
    rw [hr.out]
    rintro e w1 ⟨rfl, hb⟩
    obtain ⟨q1, z1, c1, f1⟩ := after (w := w) hb (by go_grown)
    go_wp2
    go_ret2
    exact ⟨by simp, q1⟩
  · have hbd := right_bounds hr
    replace hr := hid_mk hr
    rw [logV_eq]
    go_enter Tryz.func36, Tryz.ntmps36
    go_wp2_with fail
    rw [← logV_eq]
    refine (Right_any l _ _ _ _ hm (h.to (by go_grown))).mono ?_
    rw [hr.out]
    rintro e w1 ⟨rfl, hb⟩
    obtain ⟨q1, z1, c1, f1⟩ := after (w := w) hb (by go_grown)
    simp only [World.size_alloc] at z1
    go_wp2_with fail
    go_region_held3 (fun w' => w'.cell? ⟨w1.heap.size, 0, none⟩ = some (.int .i64 l.base) ∧ w'.cell? ⟨w1.heap.size, 1, none⟩ = some (.int .i64 l.bt) ∧ w'.cell? ⟨w1.heap.size, 2, none⟩ = some (.slice A n cap)) (go_keep) (first | (go_at_call 105; refine (vlast_any l A n cap _ hm hlen.out hbd.1 hbd.2.1).mono ?_; rintro e w2 ⟨rfl, hb2⟩; obtain ⟨q2, z2, c2, f2⟩ := after (w := w) hb2 (by go_grown); have z2' : w1.heap.size < w2.heap.size := by (simp at z2; omega)) | (go_at_call 104; refine (vterm_any l _ A n cap _ hm (h.to (by go_grown)) hbd.1 hbd.2.1).mono ?_; rintro e w3 ⟨rfl, hb3⟩; obtain ⟨q3, z3, c3, f3⟩ := after (w := w) hb3 (by go_grown)))
    go_wp2
    go_ret2
    exact ⟨by simp [lastJ, hlen.out], by go_grown⟩
end Go.Proofs.YtncdjmpdbinanaaGreatDoor
namespace Go.Proofs.YtncdjmpdbinanaaGreatDoor
open Go.RowKit

def newerJ (l : Lg) (at' term : Int) : Bool :=
  decide ((termJ l (lastJ l)).getD 0 < term) || (term == (termJ l (lastJ l)).getD 0) && decide (lastJ l ≤ at')
set_option maxHeartbeats 400000 in
theorem Newer_any (l : Lg) (at' term : Int) (A : Option Addr) (n cap : Nat) (w : World) {B : Nat} (hm : n ≤ 140737488355328) (h : Recs w B A n l.rs) :
    Calls Tryz.prog 143 #[logV l A n cap, .int .i64 at', .int .i64 term] w fun e w' => e = .returned (.bool (rightJ l && newerJ l at' term)) ∧ Below w.heap.size w w' := by
  cases hr : rightJ l
  · replace hr := hid_mk hr
    rw [logV_eq]
    go_enter Tryz.func143, Tryz.ntmps143
    go_wp2_with fail
    rw [← logV_eq]
    refine (Last_any l _ _ _ _ hm (h.to (by go_grown))).mono ?_
    rw [hr.out]
    rintro e w1 ⟨rfl, hb⟩
    obtain ⟨q1, z1, c1, f1⟩ := after (w := w) hb (by go_grown)
    simp only [World.size_alloc] at z1
    go_wp2_with fail
    rw [← logV_eq]
    refine (Right_any l _ _ _ _ hm (h.to (by go_grown))).mono ?_
    rw [hr.out]
    rintro e w2 ⟨rfl, hb2⟩
    obtain ⟨q2, z2, c2, f2⟩ := after (w := w) hb2 (by go_grown)
    go_wp2
    go_ret
    exact ⟨rfl, q2⟩
  · replace hr := hid_mk hr
    obtain ⟨t, ht⟩ : ∃ t, (termJ l (lastJ l)).getD 0 = t := ⟨_, rfl⟩
    obtain ⟨la, hla⟩ : ∃ la, lastJ l = la := ⟨_, rfl⟩
    have hN : Hid (newerJ l at' term = (decide (t < term) || (term == t) && decide (la ≤ at'))) := by unfold Hid newerJ; rw [ht, hla]
    replace ht := hid_mk ht
    replace hla := hid_mk hla
    have go : ∀ (b : Bool), (decide (t < term) || (term == t) && decide (la ≤ at')) = b → Calls Tryz.prog 143 #[logV l A n cap, .int .i64 at', .int .i64 term] w fun e w' => e = .returned (.bool b) ∧ Below w.heap.size w w' := by
      intro b hb'
      rw [logV_eq]
      by_cases g1 : t < term
      · obtain rfl : b = true := by simp [← hb', g1]
        clear hb'
        go_enter Tryz.func143, Tryz.ntmps143
        go_wp2_with fail
        rw [← logV_eq]
        refine (Last_any l _ _ _ _ hm (h.to (by go_grown))).mono ?_
        rw [hr.out, if_pos rfl, if_pos rfl, ht.out, hla.out]
        rintro e w1 ⟨rfl, hb⟩
        obtain ⟨q1, z1, c1, f1⟩ := after (w := w) hb (by go_grown)
        simp only [World.size_alloc] at z1
        go_wp2_with fail
        rw [← logV_eq]
        refine (Right_any l _ _ _ _ hm (h.to (by go_grown))).mono ?_
        rw [hr.out]
        rintro e w2 ⟨rfl, hb2⟩
        obtain ⟨q2, z2, c2, f2⟩ := after (w := w) hb2 (by go_grown)
        go_wp2
        go_ret
        exact ⟨rfl, q2⟩
      · by_cases g2 : term = t
        · subst g2
          obtain rfl : b = decide (la ≤ at') := by simp [← hb']
          clear hb'
          have g1' : decide (term < term) = false := by simp
          go_enter Tryz.func143, Tryz.ntmps143
          go_wp2_with fail
          rw [← logV_eq]
          refine (Last_any l _ _ _ _ hm (h.to (by go_grown))).mono ?_
          rw [hr.out, if_pos rfl, if_pos rfl, ht.out, hla.out]
          rintro e w1 ⟨rfl, hb⟩
          obtain ⟨q1, z1, c1, f1⟩ := after (w := w) hb (by go_grown)
          simp only [World.size_alloc] at z1
          go_wp2_with fail
          rw [← logV_eq]
          refine (Right_any l _ _ _ _ hm (h.to (by go_grown))).mono ?_
          rw [hr.out]
          rintro e w2 ⟨rfl, hb2⟩
          obtain ⟨q2, z2, c2, f2⟩ := after (w := w) hb2 (by go_grown)
          go_wp2
          go_ret
          exact ⟨ret_bool (by simp), q2⟩
        · have g2' : (term == t) = false := by simpa using g2
          obtain rfl : b = false := by simp [← hb', g1, g2]
          replace g2 := hid_mk g2
          clear hb'
          go_enter Tryz.func143, Tryz.ntmps143
          go_wp2_with fail
          rw [← logV_eq]
          refine (Last_any l _ _ _ _ hm (h.to (by go_grown))).mono ?_
          rw [hr.out, if_pos rfl, if_pos rfl, ht.out, hla.out]
          rintro e w1 ⟨rfl, hb⟩
          obtain ⟨q1, z1, c1, f1⟩ := after (w := w) hb (by go_grown)
          simp only [World.size_alloc] at z1
          go_wp2_with fail
          rw [← logV_eq]
          refine (Right_any l _ _ _ _ hm (h.to (by go_grown))).mono ?_
          rw [hr.out]
          rintro e w2 ⟨rfl, hb2⟩
          obtain ⟨q2, z2, c2, f2⟩ := after (w := w) hb2 (by go_grown)
          go_wp2
          go_ret
          exact ⟨ret_bool (by simpa using g1), q2⟩
    rw [hN.out]
    exact go _ rfl
end Go.Proofs.YtncdjmpdbinanaaGreatDoor
namespace Go.Proofs.YtncdjmpdbinanaaGreatDoor
open Go.RowKit

/-- what a body's post asks at a return: the post itself under a name that the walk does not open -/
def Ends (P : Program) (fn : Func) (R : Ending → World → Prop) (Q : Exit → Act → World → Prop) : Prop :=
  ∀ (a : Act) (w : World) (v : Value), a.defers = [] → (results fn a.tmps).run P w = .ok v w → R (.returned v) w → Q .ret a w ∧ Q .normal a w
section
variable {P : Program} {fn : Func} {R : Ending → World → Prop} {Q : Exit → Act → World → Prop} {a : Act} {w : World} {v : Value}
theorem ends_ret (hQ : Hid (Ends P fn R Q)) (hr : (results fn a.tmps).run P w = .ok v w) (hd : a.defers = []) (hR : R (.returned v) w) : NoPanic Q .ret a w := (hQ.out a w v hd hr hR).1
theorem ends_end (hQ : Hid (Ends P fn R Q)) (hr : (results fn a.tmps).run P w = .ok v w) (hd : a.defers = []) (hR : R (.returned v) w) : NoPanic Q .normal a w := (hQ.out a w v hd hr hR).2
theorem calls_of_wpQ {f : FuncId} {c : Code} {args : Array Value}
    (hf : P.funcs[f]? = some fn) (hb : fn.body = some c)
    (h : ∀ Q, Hid (Ends P fn R Q) → c.wp P (NoPanic Q) { tmps := args ++ Array.replicate (fn.ntmps - args.size) undef, defers := [] } w) :
    Calls P f args w R := calls_of_wp hf hb (Code.wp_mono NoPanic.imp (h _ (fun _ _ v hd hr hR => ⟨⟨hd, v, hr, hR⟩, ⟨hd, v, hr, hR⟩⟩)))
end
end Go.Proofs.YtncdjmpdbinanaaGreatDoor
namespace Go.Proofs.YtncdjmpdbinanaaGreatDoor
open Go.RowKit

/-- is x among them? -/
def inL (x : Int) : List Int → Bool
  | [] => false
  | y :: ys => if x == y then true else inL x ys

/-- the place of x -/
def idxL (x : Int) (i : Nat) : List Int → Int
  | [] => -1
  | y :: ys => if x == y then i else idxL x (i + 1) ys
theorem idx_in (x : Int) (xs : List Int) : ∀ i, decide (0 ≤ idxL x i xs) = inL x xs := by
  induction xs with
  | nil => intro i; rfl
  | cons y ys ih =>
    intro i
    unfold idxL inL
    split
    · simp
    · exact ih _

theorem Index_any (a : Option Addr) (len cap : Nat) (xs : List Int) (x : Int) (w : World) (B : Nat) (hm : len ≤ 140737488355328) (h : Ints w B a len xs) :
    Calls Tryz.prog 135 #[.slice a len cap, .int .i64 x] w fun e w' => e = .returned (.int .i64 (idxL x 0 xs)) ∧ w = w' := by
  go_enter Tryz.func135, Tryz.ntmps135
  go_wp2
  go_loop [5, 8] (fun _ i => ∃ k : Nat, k ≤ len ∧ i = .int .i64 k ∧ Hid (idxL x 0 xs = idxL x k (xs.drop k))) (fun _ i => len - (intOf i).toNat)
  case atStart => exact ⟨0, Nat.zero_le _, rfl, by simp [Hid]⟩
  case round =>
    obtain ⟨k, hk, rfl, hn⟩ := hrel
    by_cases hlt : k < len
    · obtain ⟨b, o, y, rfl, _, hd, hc⟩ := h.at_ hlt
      go_wp2
      · go_ret
        have ht : (x == y) = true := by assumption
        exact ⟨ret_int (by rw [hn.out, hd.out]; simp [idxL, ht]), rfl⟩
      · have ht : (x == y) = false := by assumption
        go_round
        case rel => exact ⟨k + 1, by omega, by go_num, by rw [Hid, hn.out, hd.out]; simp [idxL, ht]⟩
        case measure => simp [intOf]; omega
    · have he := hid_mk (h.end_ hk hlt)
      go_wp2
      go_ret
      exact ⟨ret_int (by rw [hn.out, he.out]; simp [idxL]), rfl⟩

theorem Contains_any (a : Option Addr) (len cap : Nat) (xs : List Int) (x : Int) (w : World) (B : Nat) (hm : len ≤ 140737488355328) (h : Ints w B a len xs) :
    Calls Tryz.prog 86 #[.slice a len cap, .int .i64 x] w fun e w' => e = .returned (.bool (inL x xs)) ∧ w = w' := by
  go_enter Tryz.func86, Tryz.ntmps86
  go_wp2_with (go_at_call 135; refine (Index_any _ _ _ xs _ _ B hm h).mono ?_; rintro e w' ⟨rfl, rfl⟩)
  go_ret
  exact ⟨ret_bool (idx_in x xs 0), rfl⟩

/-- ascending, each from 1 to 9 -/
def ascL : Option Int → List Int → Bool
  | _, [] => true
  | none, v :: vs => if v < 1 ∨ 9 < v then false else ascL (some v) vs
  | some u, v :: vs => if v < 1 ∨ 9 < v ∨ v ≤ u then false else ascL (some v) vs
def prevOf (xs : List Int) (k : Nat) : Option Int := if k = 0 then none else xs[k - 1]?
def rightL (xs : List Int) : Bool := ascL none xs && decide (1 ≤ xs.length ∧ xs.length ≤ 7)

theorem prev_zero (xs : List Int) : prevOf xs 0 = none := rfl
theorem prev_succ {xs : List Int} {m : Nat} {u : Int} (h : xs.drop m = u :: xs.drop (m + 1)) : prevOf xs (m + 1) = some u := by
  unfold prevOf
  rw [if_neg (by omega), Nat.add_sub_cancel]
  have : (xs.drop m)[0]? = some u := by rw [h]; rfl
  simpa using this

set_option maxHeartbeats 400000 in
theorem qrefRight_any (a : Option Addr) (len cap : Nat) (xs : List Int) (w : World) (B : Nat) (hm : len ≤ 140737488355328) (h : Ints w B a len xs) :
    Calls Tryz.prog 60 #[.slice a len cap] w fun e w' => e = .returned (.bool (rightL xs)) ∧ w = w' := by
  have hlen := hid_mk h.len
  go_enter Tryz.func60, Tryz.ntmps60
  go_wp2
  go_loop [3, 4, 7] (fun _ _ i => ∃ k : Nat, k ≤ len ∧ i = .int .i64 k ∧ Hid (ascL none xs = ascL (prevOf xs k) (xs.drop k))) (fun _ _ i => len - (intOf i).toNat)
  case atStart => exact ⟨0, Nat.zero_le _, rfl, by simp [Hid, prevOf]⟩
  case round =>
    obtain ⟨k, hk, rfl, hn⟩ := hrel
    by_cases hlt : k < len
    · obtain ⟨b, o, v, rfl, _, hd, hc⟩ := h.at_ hlt
      have hp1 := hid_mk (prev_succ hd.out)
      have ends : ascL (prevOf xs k) (xs.drop k) = false → rightL xs = false := fun he => by simp [rightL, hn.out, he]
      rcases Nat.eq_zero_or_pos k with h0 | h0
      · subst h0
        rw [Nat.add_zero] at hc
        by_cases h1 : v < 1
        · go_wp2
          go_ret
          exact ⟨ret_bool (by rw [ends]; rw [prev_zero, hd.out, ascL, if_pos (.inl h1)]), rfl⟩
        by_cases h9 : 9 < v
        · go_wp2
          go_ret
          exact ⟨ret_bool (by rw [ends]; rw [prev_zero, hd.out, ascL, if_pos (.inr h9)]), rfl⟩
        go_wp2
        go_round
        case rel => exact ⟨1, by omega, by go_num, by rw [Hid, hn.out, hd.out, hp1.out, prev_zero, ascL, if_neg (by omega)]⟩
        case measure => simp [intOf]; omega
      · obtain ⟨m, rfl⟩ : ∃ m, k = m + 1 := ⟨k - 1, by omega⟩
        obtain ⟨b', o', u, e, _, hd', hc'⟩ := h.at_ (show m < len by omega)
        cases e
        have hp := hid_mk (prev_succ hd'.out)
        by_cases h1 : v < 1
        · go_wp2
          go_ret
          exact ⟨ret_bool (by rw [ends]; rw [hp.out, hd.out, ascL, if_pos (.inl h1)]), rfl⟩
        by_cases h9 : 9 < v
        · go_wp2
          go_ret
          exact ⟨ret_bool (by rw [ends]; rw [hp.out, hd.out, ascL, if_pos (.inr (.inl h9))]), rfl⟩
        by_cases hu : v ≤ u
        · go_wp2
          go_ret
          exact ⟨ret_bool (by rw [ends]; rw [hp.out, hd.out, ascL, if_pos (.inr (.inr hu))]), rfl⟩
        go_wp2
        go_round
        case rel => exact ⟨m + 1 + 1, by omega, by go_num, by rw [Hid, hn.out, hd.out, hp1.out, hp.out, ascL, if_neg (by omega)]⟩
        case measure => simp [intOf]; omega
    · have he := hid_mk (h.end_ hk hlt)
      have hf := hid_mk (show ascL none xs = true by rw [hn.out, he.out]; cases prevOf xs k <;> rfl)
      obtain rfl : k = len := by omega
      by_cases hl1 : 1 ≤ k
      · go_wp2
        go_ret
        exact ⟨ret_bool (by unfold rightL; rw [hf.out, hlen.out, Bool.true_and, Bool.eq_iff_iff]; simp only [decide_eq_true_eq]; omega), rfl⟩
      · go_wp2
        go_ret
        exact ⟨ret_bool (by unfold rightL; rw [hf.out, hlen.out]; simp [hl1]), rfl⟩

set_option maxHeartbeats 400000 in
theorem qRight_any (a : Option Addr) (len cap : Nat) (xs : List Int) (w : World) (B : Nat) (hm : len ≤ 140737488355328) (h : Ints w B a len xs) :
    Calls Tryz.prog 101 #[.slice a len cap] w fun e w' => e = .returned (.bool (rightL xs)) ∧ w = w' := by
  have hlen := hid_mk h.len
  by_cases hl1 : len < 1
  · go_enter Tryz.func101, Tryz.ntmps101
    go_wp2
    go_ret
    exact ⟨ret_bool (by unfold rightL; rw [hlen.out]; simp; omega), rfl⟩
  by_cases hl7 : 7 < len
  · go_enter Tryz.func101, Tryz.ntmps101
    go_wp2
    go_ret
    exact ⟨ret_bool (by unfold rightL; rw [hlen.out]; simp; omega), rfl⟩
  go_enter Tryz.func101, Tryz.ntmps101
  go_wp2
  go_loop [3, 4, 15] (fun _ _ i => ∃ k : Nat, k ≤ len ∧ i = .int .i64 k ∧ Hid (ascL none xs = ascL (prevOf xs k) (xs.drop k))) (fun _ _ i => len - (intOf i).toNat)
  case atStart => exact ⟨0, Nat.zero_le _, rfl, by simp [Hid, prevOf]⟩
  case round =>
    obtain ⟨k, hk, rfl, hn⟩ := hrel
    by_cases hlt : k < len
    · obtain ⟨b, o, v, rfl, _, hd, hc⟩ := h.at_ hlt
      have hp1 := hid_mk (prev_succ hd.out)
      have ends : ascL (prevOf xs k) (xs.drop k) = false → rightL xs = false := fun he => by simp [rightL, hn.out, he]
      rcases Nat.eq_zero_or_pos k with h0 | h0
      · subst h0
        rw [Nat.add_zero] at hc
        by_cases h1 : v < 1
        · go_wp2
          go_ret
          exact ⟨ret_bool (by rw [ends]; rw [prev_zero, hd.out, ascL, if_pos (.inl h1)]), rfl⟩
        by_cases h9 : 9 < v
        · go_wp2
          go_ret
          exact ⟨ret_bool (by rw [ends]; rw [prev_zero, hd.out, ascL, if_pos (.inr h9)]), rfl⟩
        go_wp2
        go_round
        case rel => exact ⟨1, by omega, by go_num, by rw [Hid, hn.out, hd.out, hp1.out, prev_zero, ascL, if_neg (by omega)]⟩
        case measure => simp [intOf]; omega
      · obtain ⟨m, rfl⟩ : ∃ m, k = m + 1 := ⟨k - 1, by omega⟩
        obtain ⟨b', o', u, e, _, hd', hc'⟩ := h.at_ (show m < len by omega)
        cases e
        have hp := hid_mk (prev_succ hd'.out)
        by_cases h1 : v < 1
        · go_wp2
          go_ret
          exact ⟨ret_bool (by rw [ends]; rw [hp.out, hd.out, ascL, if_pos (.inl h1)]), rfl⟩
        by_cases h9 : 9 < v
        · go_wp2
          go_ret
          exact ⟨ret_bool (by rw [ends]; rw [hp.out, hd.out, ascL, if_pos (.inr (.inl h9))]), rfl⟩
        by_cases hu : v ≤ u
        · go_wp2
          go_ret
          exact ⟨ret_bool (by rw [ends]; rw [hp.out, hd.out, ascL, if_pos (.inr (.inr hu))]), rfl⟩
        go_wp2
        go_round
        case rel => exact ⟨m + 1 + 1, by omega, by go_num, by rw [Hid, hn.out, hd.out, hp1.out, hp.out, ascL, if_neg (by omega)]⟩
        case measure => simp [intOf]; omega
    · have he := hid_mk (h.end_ hk hlt)
      have hf := hid_mk (show ascL none xs = true by rw [hn.out, he.out]; cases prevOf xs k <;> rfl)
      go_wp2
      go_ret
      exact ⟨ret_bool (by unfold rightL; rw [hf.out, hlen.out]; simp; omega), rfl⟩

/-- how many of a are in b -/
def cntL (b : List Int) : List Int → Nat
  | [] => 0
  | x :: xs => (if inL x b then 1 else 0) + cntL b xs
theorem cnt_le (b : List Int) : ∀ a, cntL b a ≤ a.length
  | [] => by simp [cntL]
  | x :: xs => by have := cnt_le b xs; unfold cntL; split <;> simp <;> omega
def winsL (v g : List Int) : Bool := rightL v && decide (v.length < 2 * cntL g v)
def nextL (a b : List Int) : Bool := rightL a && rightL b && decide ((a.length - cntL b a) + (b.length - cntL a b) = 1)

end Go.Proofs.YtncdjmpdbinanaaGreatDoor
