/-
  WHAT IS PROVED HERE: a list of values under way: its row is the call's own, what lies in it stays; a number as a value. No condition.
-/
import Derived.Test.YtnaindoeihnmpaaGreatDoorZGVl0
import Derived.Test.YtnaindoeihnmpaaGreatDoorZGMem
namespace Go.Proofs.YtnaindoeihnmpaaGreatDoor
open Go.RowKit

def numN (n : Int) : Vn := ⟨numV n, 1, 105 :: (Lib.itoa n ++ [101])⟩
def txtN (s : ByteArray) : Vn := ⟨txtV s, 1, Lib.itoa s.size ++ 58 :: s.data.toList⟩
def recEnc (r : Rec) : List UInt8 := 108 :: (encN [numN r.t, numN r.k, txtN r.d] ++ [101])
def recN (b : Nat) (r : Rec) : Vn := ⟨lstV (some ⟨b, 0, none⟩) 3 3, 4, recEnc r⟩
/-- blocks that lie behind the list's box and are not its row -/
def Offs (gv : Nat) (v : Value) : Nat → Prop := fun b => some b ≠ v.ownBlock ∧ gv < b
def Ups (gv : Nat) : Nat → Prop := fun b => gv < b
/-- a list under way: its box holds the slice u, its row is v -/
structure RowSt (w : World) (gv : Nat) (u v : Value) (d n : Nat) (xs : List Vn) : Prop where
  box : Blk w gv 101 #[.int .i64 3, .int .i64 0, .string ⟨#[]⟩, u]
  own : w.ownsRow (gv + 1) 101 4 v n (cellsN xs)
  oks : ∀ x ∈ xs, VOk w (Offs gv v) d x.v x.cnt x.enc
theorem own_lt {w : World} {base e size n : Nat} {v : Value} {xs : List Value} (h : w.ownsRow base e size v n xs) : ∀ k, v.ownBlock = some k → base ≤ k ∧ k < w.heap.size := by
  intro k hk
  rcases h.2 with ⟨rfl, _⟩ | ⟨g, cap, cur, rfl, hb, hg, _⟩
  · simp [Value.ownBlock] at hk
  · simp [Value.ownBlock] at hk
    subst hk
    exact ⟨hb, (Array.getElem?_eq_some_iff.1 hg).1⟩
theorem own_keep {w w' : World} {base e size n : Nat} {v : Value} {xs : List Value} (h : w.ownsRow base e size v n xs) (hb : Below w.heap.size w w') : w'.ownsRow base e size v n xs := by
  refine ⟨h.1, ?_⟩
  rcases h.2 with hn | ⟨g, cap, cur, hv, hB, hg, rest⟩
  · exact .inl hn
  · exact .inr ⟨g, cap, cur, hv, hB, (hb.block g (Array.getElem?_eq_some_iff.1 hg).1).trans hg, rest⟩
section
variable {w w' : World} {gv d n : Nat} {u v v' : Value} {xs : List Vn}
theorem RowSt.new (w : World) (d : Nat) : RowSt (w.alloc (.cells #[.int .i64 3, .int .i64 0, .string ⟨#[]⟩, .slice none 0 0] 101)) w.heap.size (.slice none 0 0) (.slice none 0 0) d 0 [] :=
  ⟨Blk.new w _ _, World.ownsRow_nil _ _ _ _, by simp⟩
theorem RowSt.keep (h : RowSt w gv u v d n xs) (hb : Below w.heap.size w w') : RowSt w' gv u v d n xs :=
  ⟨h.box.keep hb, own_keep h.own hb, fun x hx => VOk.to hb.size (fun b _ hlt => hb.block b hlt) (fun _ h _ => h) (h.oks x hx)⟩
theorem RowSt.app {x : Vn} (h : RowSt w gv u v d n xs) (hg : w.grownBy w' v.ownBlock) (hat : v'.ownBlock = v.ownBlock ∨ v'.ownBlock = some w.heap.size)
    (hown : w'.ownsRow (gv + 1) 101 4 v' (n + 1) (cellsN xs ++ valCells x.v)) (hx : VOk w (Offs gv v) d x.v x.cnt x.enc) : RowSt w' gv u v' d (n + 1) (xs ++ [x]) := by
  have hk : ∀ b, Offs gv v b → b < w.heap.size → w'.heap[b]? = w.heap[b]? := fun b hb hlt => hg.block b hlt hb.1
  have hS : ∀ b, Offs gv v b → b < w.heap.size → Offs gv v' b := fun b hb hlt => ⟨fun e => by
    rcases hat with h' | h'
    · exact hb.1 (e.trans h')
    · rw [h'] at e; injection e with e; omega, hb.2⟩
  refine ⟨h.box.grown hg (fun e => by have := (own_lt h.own _ e.symm).1; omega), ?_, fun y hy => ?_⟩
  · rw [show cellsN (xs ++ [x]) = cellsN xs ++ valCells x.v from by unfold cellsN; rw [List.flatMap_append]; simp [vnCells]]
    exact hown
  · rcases List.mem_append.1 hy with hy | hy
    · exact VOk.to hg.size hk hS (h.oks y hy)
    · rw [List.mem_singleton] at hy
      subst hy
      exact VOk.to hg.size hk hS hx
theorem RowSt.put (h : RowSt w gv u v d n xs) : RowSt (w.setCell ⟨gv, 3, none⟩ v) gv v v d n xs := by
  have hne : v.ownBlock ≠ some gv := fun e => by have := (own_lt h.own _ e).1; omega
  refine ⟨h.box.set_ 3 v, ownsRow_setCell_other h.own hne _, fun x hx => ?_⟩
  exact VOk.to (by simp [World.setCell]) (fun b hb _ => Below.heap_setCell w ⟨gv, 3, none⟩ v b (Nat.ne_of_gt hb.2)) (fun _ h _ => h) (h.oks x hx)
/-- the list, read -/
theorem RowSt.list {A : Option Addr} {c : Nat} (h : RowSt w gv u (.slice A n c) d n xs) (hn : n ≤ 4000) : VOk w (Ups gv) (d + 1) (lstV A n c) (1 + cntN xs) (108 :: (encN xs ++ [101])) := by
  refine .inr (.inr ⟨A, n, c, xs, rfl, hn, ⟨h.own.1, fun h0 => ?_⟩, fun x hx => VOk.to (Nat.le_refl _) (fun _ _ _ => rfl) (fun _ h _ => h.2) (h.oks x hx), rfl, rfl⟩)
  obtain ⟨b, o, e1, e2, _, e3⟩ := (Reads.of_own (B := 0) h.own).2 h0
  exact ⟨b, o, e1, (own_lt h.own b (by rw [e1]; rfl)).1, e2, e3⟩
theorem num_ok {S : Nat → Prop} {d : Nat} {n : Int} (w : World) (h0 : 0 ≤ n) (h1 : n ≤ 1073741824) : VOk w S (d + 1) (numN n).v (numN n).cnt (numN n).enc := .inl ⟨n, rfl, h0, h1, rfl, rfl⟩
theorem txt_ok {S : Nat → Prop} {d : Nat} {s : ByteArray} (w : World) (h : s.size ≤ 131072) : VOk w S (d + 1) (txtN s).v (txtN s).cnt (txtN s).enc := .inr (.inl ⟨s, rfl, h, rfl, rfl⟩)
theorem rec_ok {S : Nat → Prop} {b : Nat} {r : Rec} (hb : Blk w b 101 (cellsN [numN r.t, numN r.k, txtN r.d]).toArray) (hS : S b) (h0 : 0 ≤ r.t) (h1 : r.t ≤ 1073741824) (h2 : 0 ≤ r.k) (h3 : r.k ≤ 1073741824) (h4 : r.d.size ≤ 131072) :
    VOk w S 2 (recN b r).v (recN b r).cnt (recN b r).enc := by
  refine .inr (.inr ⟨some ⟨b, 0, none⟩, 3, 3, [numN r.t, numN r.k, txtN r.d], rfl, by omega, ⟨rfl, fun _ => ⟨b, 0, rfl, hS, hb.lt, fun j u hu => ?_⟩⟩, fun x hx => ?_, rfl, rfl⟩)
  · rw [Nat.zero_add, hb.cell j, List.getElem?_toArray]; exact hu
  · simp only [List.mem_cons, List.not_mem_nil, or_false] at hx
    rcases hx with rfl | rfl | rfl
    · exact num_ok w h0 h1
    · exact num_ok w h2 h3
    · exact txt_ok w h4
end
/-- the records as a list of values -/
def recsEnc (rs : List Rec) : List UInt8 := 108 :: (rs.flatMap recEnc ++ [101])
theorem num_any (n : Int) (w : World) : Calls Tryz.prog 93 #[.int .i64 n] w fun e w' => e = .returned (.agg #[.int .i64 1, .int .i64 n, .string ⟨#[]⟩, .slice none 0 0]) ∧ Below w.heap.size w w' := by
  refine calls_of_wpQ Tryz.func93 rfl ?_
  intro Q hQ
  simp only [Tryz.ntmps93, List.size_toArray, List.length_cons, List.length_nil, Nat.reduceAdd, Nat.reduceSub, Array.replicate_succ, Array.replicate_zero, List.push_toArray, List.append_toArray, List.nil_append, List.cons_append]
  go_wp2
  refine ends_ret hQ (v := .agg #[.int .i64 1, .int .i64 n, .string ⟨#[]⟩, .slice none 0 0]) (by simp [results, Tryz.results93, go_sem]) rfl ?_
  exact ⟨rfl, by go_grown⟩
theorem rnum_any (n : Int) (w : World) : Calls Tryz.prog 70 #[.int .i64 n] w fun e w' => e = .returned (.agg #[.int .i64 1, .int .i64 n, .string ⟨#[]⟩, .slice none 0 0]) ∧ Below w.heap.size w w' := by
  refine calls_of_wpQ Tryz.func70 rfl ?_
  intro Q hQ
  simp only [Tryz.ntmps70, List.size_toArray, List.length_cons, List.length_nil, Nat.reduceAdd, Nat.reduceSub, Array.replicate_succ, Array.replicate_zero, List.push_toArray, List.append_toArray, List.nil_append, List.cons_append]
  go_wp2
  refine ends_ret hQ (v := .agg #[.int .i64 1, .int .i64 n, .string ⟨#[]⟩, .slice none 0 0]) (by simp [results, Tryz.results70, go_sem]) rfl ?_
  exact ⟨rfl, by go_grown⟩
end Go.Proofs.YtnaindoeihnmpaaGreatDoor
