/-
  WHAT IS PROVED HERE: a list of values under way: its row is the call's own, what lies in it stays; a number as a value. No condition.
  WHAT IS PROVED HERE: the records of a log as a list of values, by wal.records and by the reference's recs. Conditions: at most 200 records, whose numbers and texts are within those of a log that may be.
  WHAT IS PROVED HERE: a state as a value, as wal.value makes it. Condition: the state may be, but for its bytes.
-/
import Derived.Test.YtncdjmpdbinanaaGreatDoorZGVl0
import Derived.Test.YtncdjmpdbinanaaGreatDoorZGMem
import Derived.Test.YtncdjmpdbinanaaGreatDoorZGJrn
import Derived.Test.YtncdjmpdbinanaaGreatDoorZGReg
namespace Go.Proofs.YtncdjmpdbinanaaGreatDoor
open Go.RowKit

def numN (n : Int) : Vn := ⟨numV n, 1, 105 :: (Lib.itoa n ++ [101])⟩
def txtN (s : ByteArray) : Vn := ⟨txtV s, 1, Lib.itoa s.size ++ 58 :: s.data.toList⟩
def recEnc (r : Rec) : List UInt8 := 108 :: (encN [numN r.t, numN r.k, txtN r.d] ++ [101])
def recN (b : Nat) (r : Rec) : Vn := ⟨lstV (some ⟨b, 0, none⟩) 3 3, 4, recEnc r⟩
/-- blocks that lie behind the list's box and are not its row -/
def Offs (gv : Nat) (v : Value) : Nat → Prop := fun b => some b ≠ v.ownBlock ∧ gv < b
def Ups (gv : Nat) : Nat → Prop := fun b => gv < b
/-- a list under way: its box holds the slice u, its row is v -/
structure RowSt (w : World) (gv : Nat) (u v : Value) (d n : Nat) (xs : List Vn) : Prop where
  box : Blk w gv 163 #[.int .i64 3, .int .i64 0, .string ⟨#[]⟩, u]
  own : w.ownsRow (gv + 1) 163 4 v n (cellsN xs)
  oks : ∀ x ∈ xs, VOk w (Offs gv v) d x.v x.cnt x.enc
theorem own_lt {w : World} {base e size n : Nat} {v : Value} {xs : List Value} (h : w.ownsRow base e size v n xs) : ∀ k, v.ownBlock = some k → base ≤ k ∧ k < w.heap.size := by
  intro k hk
  rcases h.2 with ⟨rfl, _⟩ | ⟨g, cap, cur, rfl, hb, hg, _⟩
  · simp [Value.ownBlock] at hk
  · simp [Value.ownBlock] at hk
    subst hk
    exact ⟨hb, (Array.getElem?_eq_some_iff.1 hg).1⟩
theorem own_keep {w w' : World} {base e size n : Nat} {v : Value} {xs : List Value} (h : w.ownsRow base e size v n xs) (hb : Below w.heap.size w w') : w'.ownsRow base e size v n xs := by
  refine ⟨h.1, ?_⟩
  rcases h.2 with hn | ⟨g, cap, cur, hv, hB, hg, rest⟩
  · exact .inl hn
  · exact .inr ⟨g, cap, cur, hv, hB, (hb.block g (Array.getElem?_eq_some_iff.1 hg).1).trans hg, rest⟩
section
variable {w w' : World} {gv d n : Nat} {u v v' : Value} {xs : List Vn}
theorem RowSt.new (w : World) (d : Nat) : RowSt (w.alloc (.cells #[.int .i64 3, .int .i64 0, .string ⟨#[]⟩, .slice none 0 0] 163)) w.heap.size (.slice none 0 0) (.slice none 0 0) d 0 [] :=
  ⟨Blk.new w _ _, World.ownsRow_nil _ _ _ _, by simp⟩
theorem RowSt.keep (h : RowSt w gv u v d n xs) (hb : Below w.heap.size w w') : RowSt w' gv u v d n xs :=
  ⟨h.box.keep hb, own_keep h.own hb, fun x hx => VOk.to hb.size (fun b _ hlt => hb.block b hlt) (fun _ h _ => h) (h.oks x hx)⟩
theorem RowSt.app {x : Vn} (h : RowSt w gv u v d n xs) (hg : w.grownBy w' v.ownBlock) (hat : v'.ownBlock = v.ownBlock ∨ v'.ownBlock = some w.heap.size)
    (hown : w'.ownsRow (gv + 1) 163 4 v' (n + 1) (cellsN xs ++ valCells x.v)) (hx : VOk w (Offs gv v) d x.v x.cnt x.enc) : RowSt w' gv u v' d (n + 1) (xs ++ [x]) := by
  have hk : ∀ b, Offs gv v b → b < w.heap.size → w'.heap[b]? = w.heap[b]? := fun b hb hlt => hg.block b hlt hb.1
  have hS : ∀ b, Offs gv v b → b < w.heap.size → Offs gv v' b := fun b hb hlt => ⟨fun e => by
    rcases hat with h' | h'
    · exact hb.1 (e.trans h')
    · rw [h'] at e; injection e with e; omega, hb.2⟩
  refine ⟨h.box.grown hg (fun e => by have := (own_lt h.own _ e.symm).1; omega), ?_, fun y hy => ?_⟩
  · rw [show cellsN (xs ++ [x]) = cellsN xs ++ valCells x.v from by unfold cellsN; rw [List.flatMap_append]; simp [vnCells]]
    exact hown
  · rcases List.mem_append.1 hy with hy | hy
    · exact VOk.to hg.size hk hS (h.oks y hy)
    · rw [List.mem_singleton] at hy
      subst hy
      exact VOk.to hg.size hk hS hx
theorem RowSt.put (h : RowSt w gv u v d n xs) : RowSt (w.setCell ⟨gv, 3, none⟩ v) gv v v d n xs := by
  have hne : v.ownBlock ≠ some gv := fun e => by have := (own_lt h.own _ e).1; omega
  refine ⟨h.box.set_ 3 v, ownsRow_setCell_other h.own hne _, fun x hx => ?_⟩
  exact VOk.to (by simp [World.setCell]) (fun b hb _ => Below.heap_setCell w ⟨gv, 3, none⟩ v b (Nat.ne_of_gt hb.2)) (fun _ h _ => h) (h.oks x hx)
/-- the list, read -/
theorem RowSt.list {A : Option Addr} {c : Nat} (h : RowSt w gv u (.slice A n c) d n xs) (hn : n ≤ 4000) : VOk w (Ups gv) (d + 1) (lstV A n c) (1 + cntN xs) (108 :: (encN xs ++ [101])) := by
  refine .inr (.inr ⟨A, n, c, xs, rfl, hn, ⟨h.own.1, fun h0 => ?_⟩, fun x hx => VOk.to (Nat.le_refl _) (fun _ _ _ => rfl) (fun _ h _ => h.2) (h.oks x hx), rfl, rfl⟩)
  obtain ⟨b, o, e1, e2, _, e3⟩ := (Reads.of_own (B := 0) h.own).2 h0
  exact ⟨b, o, e1, (own_lt h.own b (by rw [e1]; rfl)).1, e2, e3⟩
theorem num_ok {S : Nat → Prop} {d : Nat} {n : Int} (w : World) (h0 : 0 ≤ n) (h1 : n ≤ 1073741824) : VOk w S (d + 1) (numN n).v (numN n).cnt (numN n).enc := .inl ⟨n, rfl, h0, h1, rfl, rfl⟩
theorem txt_ok {S : Nat → Prop} {d : Nat} {s : ByteArray} (w : World) (h : s.size ≤ 131072) : VOk w S (d + 1) (txtN s).v (txtN s).cnt (txtN s).enc := .inr (.inl ⟨s, rfl, h, rfl, rfl⟩)
theorem rec_ok {S : Nat → Prop} {b : Nat} {r : Rec} (hb : Blk w b 163 (cellsN [numN r.t, numN r.k, txtN r.d]).toArray) (hS : S b) (h0 : 0 ≤ r.t) (h1 : r.t ≤ 1073741824) (h2 : 0 ≤ r.k) (h3 : r.k ≤ 1073741824) (h4 : r.d.size ≤ 131072) :
    VOk w S 2 (recN b r).v (recN b r).cnt (recN b r).enc := by
  refine .inr (.inr ⟨some ⟨b, 0, none⟩, 3, 3, [numN r.t, numN r.k, txtN r.d], rfl, by omega, ⟨rfl, fun _ => ⟨b, 0, rfl, hS, hb.lt, fun j u hu => ?_⟩⟩, fun x hx => ?_, rfl, rfl⟩)
  · rw [Nat.zero_add, hb.cell j, List.getElem?_toArray]; exact hu
  · simp only [List.mem_cons, List.not_mem_nil, or_false] at hx
    rcases hx with rfl | rfl | rfl
    · exact num_ok w h0 h1
    · exact num_ok w h2 h3
    · exact txt_ok w h4
end
/-- the records as a list of values -/
def recsEnc (rs : List Rec) : List UInt8 := 108 :: (rs.flatMap recEnc ++ [101])
theorem num_any (n : Int) (w : World) : Calls Tryz.prog 176 #[.int .i64 n] w fun e w' => e = .returned (.agg #[.int .i64 1, .int .i64 n, .string ⟨#[]⟩, .slice none 0 0]) ∧ Below w.heap.size w w' := by
  refine calls_of_wpQ Tryz.func176 rfl ?_
  intro Q hQ
  simp only [Tryz.ntmps176, List.size_toArray, List.length_cons, List.length_nil, Nat.reduceAdd, Nat.reduceSub, Array.replicate_succ, Array.replicate_zero, List.push_toArray, List.append_toArray, List.nil_append, List.cons_append]
  go_wp2
  refine ends_ret hQ (v := .agg #[.int .i64 1, .int .i64 n, .string ⟨#[]⟩, .slice none 0 0]) (by simp [results, Tryz.results176, go_sem]) rfl ?_
  exact ⟨rfl, by go_grown⟩
theorem rnum_any (n : Int) (w : World) : Calls Tryz.prog 153 #[.int .i64 n] w fun e w' => e = .returned (.agg #[.int .i64 1, .int .i64 n, .string ⟨#[]⟩, .slice none 0 0]) ∧ Below w.heap.size w w' := by
  refine calls_of_wpQ Tryz.func153 rfl ?_
  intro Q hQ
  simp only [Tryz.ntmps153, List.size_toArray, List.length_cons, List.length_nil, Nat.reduceAdd, Nat.reduceSub, Array.replicate_succ, Array.replicate_zero, List.push_toArray, List.append_toArray, List.nil_append, List.cons_append]
  go_wp2
  refine ends_ret hQ (v := .agg #[.int .i64 1, .int .i64 n, .string ⟨#[]⟩, .slice none 0 0]) (by simp [results, Tryz.results153, go_sem]) rfl ?_
  exact ⟨rfl, by go_grown⟩
end Go.Proofs.YtncdjmpdbinanaaGreatDoor
namespace Go.Proofs.YtncdjmpdbinanaaGreatDoor
open Go.RowKit

theorem valInfo : (Tryz.prog.info? 163).map (fun i => (i.zero, i.size, i.bytes)) = some (some (.agg #[.int .i64 0, .int .i64 0, .string ⟨#[]⟩, .slice none 0 0]), 4, 56) := by kernel_rfl
theorem info_val {P : Program} {t : TypeId} {z : Value} {n b : Nat} (h : (P.info? t).map (fun i => (i.zero, i.size, i.bytes)) = some (some z, n, b)) : ∃ i, P.info? t = some i ∧ i.zero = some z ∧ i.size = n ∧ i.bytes = b := by
  cases hi : P.info? t with
  | none => rw [hi] at h; simp at h
  | some i => rw [hi] at h; simp at h; exact ⟨i, rfl, h.1, h.2.1, h.2.2⟩
theorem val_one (v : Vl) : ∀ u ∈ valCells v, u.oneCell' = true := by
  intro u hu
  simp only [valCells, List.mem_cons, List.not_mem_nil, or_false] at hu
  rcases hu with rfl | rfl | rfl | rfl <;> rfl
theorem rec_new (w : World) (rt rk : Int) (rd : ByteArray) (o : Obj) : Reads ((w.alloc o).alloc (.cells #[.int .i64 3, .int .i64 0, .string ⟨#[]⟩, .slice (some ⟨w.heap.size, 0, none⟩) 3 3] 163)) 0 163 4 (some ⟨w.heap.size + 1, 0, none⟩) 1 (valCells (recN w.heap.size ⟨rt, rk, rd⟩).v) := by
  have := reads_new (w.alloc o) #[.int .i64 3, .int .i64 0, .string ⟨#[]⟩, .slice (some ⟨w.heap.size, 0, none⟩) 3 3] 163 1 4 0 rfl
  rw [World.size_alloc] at this
  exact this
theorem take_snoc {α : Type} {xs : List α} {k : Nat} {y : α} (hd : xs.drop k = y :: xs.drop (k + 1)) : xs.take (k + 1) = xs.take k ++ [y] := by
  have hk : k < xs.length := by
    rcases Nat.lt_or_ge k xs.length with h' | h'
    · exact h'
    · rw [List.drop_eq_nil_of_le h'] at hd; cases hd
  have h2 : xs[k]'hk = y := by rw [List.drop_eq_getElem_cons hk] at hd; injection hd
  rw [List.take_succ_eq_append_getElem hk, h2]
/-- a record's numbers and text are such as a log may have -/
def RecFit (r : Rec) : Prop := 0 ≤ r.t ∧ r.t ≤ 1073741824 ∧ 0 ≤ r.k ∧ r.k ≤ 1073741824 ∧ r.d.size ≤ 131072
set_option maxRecDepth 100000 in
set_option maxHeartbeats 6400000 in
theorem records_any (rs : List Rec) (A : Option Addr) (n cap g : Nat) (w : World) {B : Nat} (hg : g ≤ w.heap.size) (hn : n ≤ 900) (h : Recs w B A n rs) (hf : ∀ r ∈ rs, RecFit r) :
    Calls Tryz.prog 177 #[.slice A n cap] w fun e w' => (∃ A' c', e = .returned (.agg #[.int .i64 3, .int .i64 0, .string ⟨#[]⟩, .slice A' n c']) ∧ VOk w' (Ups g) 3 (lstV A' n c') (1 + 4 * n) (recsEnc rs)) ∧ Below w.heap.size w w' := by
  obtain ⟨i0, hi0, hz0, hz1, hz2⟩ := info_val valInfo
  have hlen := hid_mk h.len
  have hR0 := hid_mk (RowSt.new (w.alloc (.cells #[.int .i64 0, .int .i64 0, .string ⟨#[]⟩, .slice none 0 0] 163)) 2)
  have hZ0 := hid_mk ((Blk.new w 163 #[.int .i64 0, .int .i64 0, .string ⟨#[]⟩, .slice none 0 0]).alloc (.cells #[.int .i64 3, .int .i64 0, .string ⟨#[]⟩, .slice none 0 0] 163))
  rw [World.size_alloc] at hR0
  have q0 : Below w.heap.size w ((w.alloc (.cells #[.int .i64 0, .int .i64 0, .string ⟨#[]⟩, .slice none 0 0] 163)).alloc (.cells #[.int .i64 3, .int .i64 0, .string ⟨#[]⟩, .slice none 0 0] 163)) := by go_grown
  have hc0 : Hid (cntN ([] : List Vn) = 4 * 0) := rfl
  have he0 : Hid (encN ([] : List Vn) = (rs.take 0).flatMap recEnc) := rfl
  refine calls_of_wpQ Tryz.func177 rfl ?_
  intro Q hQ
  simp only [Tryz.ntmps177, List.size_toArray, List.length_cons, List.length_nil, Nat.reduceAdd, Nat.reduceSub, Array.replicate_succ, Array.replicate_zero, List.push_toArray, List.append_toArray, List.nil_append, List.cons_append]
  go_wp2
  go_loopw [9] (fun i wr => ∃ (k : Nat) (Av : Option Addr) (c : Nat) (xs : List Vn), k ≤ n ∧ i = .int .i64 k ∧ Below w.heap.size w wr ∧ Hid (RowSt wr (w.heap.size + 1) (.slice Av k c) (.slice Av k c) 2 k xs) ∧ Hid (Blk wr w.heap.size 163 #[.int .i64 0, .int .i64 0, .string ⟨#[]⟩, .slice none 0 0]) ∧ Hid (cntN xs = 4 * k) ∧ Hid (encN xs = (rs.take k).flatMap recEnc)) (fun i _ => n - (intOf i).toNat)
  case atStart => exact ⟨0, none, 0, [], Nat.zero_le _, rfl, q0, hR0, hZ0, hc0, he0⟩
  case round =>
    clear hR0 hZ0 hc0 he0 q0
    obtain ⟨k, Av, c, xs, hk, rfl, hb, hR, hZ, hc, he⟩ := hrel
    have hv3 := hR.out.box.cell 3
    have hgl := hR.out.box.lt
    change _ = some (Value.slice Av k c) at hv3
    by_cases hlt : k < n
    · obtain ⟨b, o, r, rfl, hbb, hd, ct, ck, cd⟩ := (h.below hb).at_ hlt
      have hfit := hid_mk (hf r (List.mem_of_mem_drop (show r ∈ rs.drop k by rw [hd.out]; exact List.mem_cons_self ..)))
      obtain ⟨rt, rk, rd⟩ := r
      dsimp only at *
      have hX : Hid (Blk (wr.alloc (.cells #[.int .i64 rt, .int .i64 rk, .string rd] 51)) wr.heap.size 51 #[.int .i64 rt, .int .i64 rk, .string rd]) := Blk.new wr _ _
      replace hR := hid_mk (hR.out.keep (show Below wr.heap.size wr (wr.alloc (.cells #[.int .i64 rt, .int .i64 rk, .string rd] 51)) from by go_grown))
      replace hZ := hid_mk (hZ.out.keep (show Below wr.heap.size wr (wr.alloc (.cells #[.int .i64 rt, .int .i64 rk, .string rd] 51)) from by go_grown))
      have q : Below w.heap.size w (wr.alloc (.cells #[.int .i64 rt, .int .i64 rk, .string rd] 51)) := hb.alloc hb.size _
      have hz : w.heap.size + 1 < wr.heap.size := hgl
      have hng1 : ¬ wr.heap.size = w.heap.size + 1 := by omega
      have hng2 : ¬ w.heap.size + 1 = wr.heap.size := by omega
      go_wp2_with fail
      obtain ⟨xl, x0, x1, x2⟩ := blk3 hX.out
      have v3 := hR.out.box.cell 3
      have vl := hR.out.box.lt
      change _ = some (Value.slice Av k c) at v3
      refine wp_region_T (fun w' => w'.cell? ⟨w.heap.size + 1, 3, none⟩ = some (.slice Av k c) ∧ w'.cell? ⟨wr.heap.size, 0, none⟩ = some (.int .i64 rt) ∧ w'.cell? ⟨wr.heap.size, 1, none⟩ = some (.int .i64 rk) ∧ w'.cell? ⟨wr.heap.size, 2, none⟩ = some (.string rd)) (fun j => decide (j < 16)) 17 (by kernel_rfl) (by kernel_rfl) ?_
      refine wpAnyT_take (i := 0) rfl (by kernel_rfl) (by kernel_rfl) (by kernel_rfl) rfl (by kernel_rfl) (fun _ _ _ h => h) rfl (fun w' hS => (by obtain ⟨s0, s1, s2, s3⟩ := hS; go_simp; try with_reducible rfl)) ⟨v3, x0, x1, x2⟩ ?_
      simp only [Act.put]
      refine wpAnyT_take (i := 1) rfl (by kernel_rfl) (by kernel_rfl) (by kernel_rfl) rfl (by kernel_rfl) (fun _ _ _ h => h) rfl (fun w' hS => (by obtain ⟨s0, s1, s2, s3⟩ := hS; go_simp; try with_reducible rfl)) ⟨v3, x0, x1, x2⟩ ?_
      simp only [Act.put]
      refine wpAnyT_take (i := 2) rfl (by kernel_rfl) (by kernel_rfl) (by kernel_rfl) rfl (by kernel_rfl) (fun _ _ _ h => h) rfl (fun w' hS => (by obtain ⟨s0, s1, s2, s3⟩ := hS; go_simp; try with_reducible rfl)) ⟨v3, x0, x1, x2⟩ ?_
      simp only [Act.put]
      refine wpAnyT_take (i := 3) rfl (by kernel_rfl) (by kernel_rfl) (by kernel_rfl) rfl (by kernel_rfl) (fun _ _ _ h => h) rfl (fun w' hS => (by obtain ⟨s0, s1, s2, s3⟩ := hS; go_simp; try with_reducible rfl)) ⟨v3, x0, x1, x2⟩ ?_
      simp only [Act.put]
      refine wpAnyT_take (i := 5) rfl (by kernel_rfl) (by kernel_rfl) (by kernel_rfl) rfl (by kernel_rfl) (fun _ _ _ h => h) rfl (fun w' hS => (by obtain ⟨s0, s1, s2, s3⟩ := hS; go_simp; try with_reducible rfl)) ⟨v3, x0, x1, x2⟩ ?_
      simp only [Act.put]
      refine wpAnyT_take (i := 6) rfl (by kernel_rfl) (by kernel_rfl) (by kernel_rfl) rfl (by kernel_rfl) (fun _ _ _ h => h) rfl (fun w' hS => (by obtain ⟨s0, s1, s2, s3⟩ := hS; go_simp; try with_reducible rfl)) ⟨v3, x0, x1, x2⟩ ?_
      simp only [Act.put]
      refine wpAnyT_take (i := 8) rfl (by kernel_rfl) (by kernel_rfl) (by kernel_rfl) rfl (by kernel_rfl) (fun _ _ _ h => h) rfl (fun w' hS => (by obtain ⟨s0, s1, s2, s3⟩ := hS; go_simp; try with_reducible rfl)) ⟨v3, x0, x1, x2⟩ ?_
      simp only [Act.put]
      refine wpAnyT_take (i := 9) rfl (by kernel_rfl) (by kernel_rfl) (by kernel_rfl) rfl (by kernel_rfl) (fun _ _ _ h => h) rfl (fun w' hS => (by obtain ⟨s0, s1, s2, s3⟩ := hS; go_simp; try with_reducible rfl)) ⟨v3, x0, x1, x2⟩ ?_
      simp only [Act.put]
      refine wpAnyT_take (i := 10) rfl (by kernel_rfl) (by kernel_rfl) (by kernel_rfl) rfl (by kernel_rfl) (fun _ _ _ h => h) rfl (fun w' hS => (by obtain ⟨s0, s1, s2, s3⟩ := hS; go_simp; try with_reducible rfl)) ⟨v3, x0, x1, x2⟩ ?_
      simp only [Act.put]
      refine wpAnyT_one (i := 4) (by kernel_rfl) rfl (fun K hK => ?_)
      go_simp
      refine (num_any _ _).mono ?_
      rintro e w1 ⟨rfl, hb1⟩
      replace q := (after (w := w) hb1 (by go_grown)).1
      replace hX := hid_mk (hX.out.keep (after hb1 (by go_grown)).1)
      replace hR := hid_mk (hR.out.keep (after hb1 (by go_grown)).1)
      replace hZ := hid_mk (hZ.out.keep (after hb1 (by go_grown)).1)
      clear hb1 xl x0 x1 x2 v3 vl
      obtain ⟨xl, x0, x1, x2⟩ := blk3 hX.out
      have v3 := hR.out.box.cell 3
      have vl := hR.out.box.lt
      change _ = some (Value.slice Av k c) at v3
      refine hK.out _ _ (fun _ => ⟨v3, x0, x1, x2⟩) ?_
      clear hK K
      try simp only [Act.put]
      refine wpAnyT_one (i := 7) (by kernel_rfl) rfl (fun K hK => ?_)
      go_simp
      refine (num_any _ _).mono ?_
      rintro e w1 ⟨rfl, hb1⟩
      replace q := (after (w := w) hb1 (by go_grown)).1
      replace hX := hid_mk (hX.out.keep (after hb1 (by go_grown)).1)
      replace hR := hid_mk (hR.out.keep (after hb1 (by go_grown)).1)
      replace hZ := hid_mk (hZ.out.keep (after hb1 (by go_grown)).1)
      clear hb1 xl x0 x1 x2 v3 vl
      obtain ⟨xl, x0, x1, x2⟩ := blk3 hX.out
      have v3 := hR.out.box.cell 3
      have vl := hR.out.box.lt
      change _ = some (Value.slice Av k c) at v3
      refine hK.out _ _ (fun _ => ⟨v3, x0, x1, x2⟩) ?_
      clear hK K
      try simp only [Act.put]
      refine wpAnyT_one (i := 11) (by kernel_rfl) rfl (fun K hK => ?_)
      go_simp
      refine hK.out _ _ (fun _ => (by (refine ⟨?_, ?_, ?_, ?_⟩ <;> go_keep))) ?_
      clear hK K
      try simp only [Act.put]
      refine wpAnyT_take (i := 12) rfl (by kernel_rfl) (by kernel_rfl) (by kernel_rfl) rfl (by kernel_rfl) (fun _ _ _ h => h) rfl (fun w' hS => (by obtain ⟨s0, s1, s2, s3⟩ := hS; go_simp; try with_reducible rfl)) (by (refine ⟨?_, ?_, ?_, ?_⟩ <;> go_keep)) ?_
      simp only [Act.put]
      refine wpAnyT_one (i := 13) (by kernel_rfl) rfl (fun K hK => ?_)
      go_simp
      refine hK.out _ _ (fun _ => (by (refine ⟨?_, ?_, ?_, ?_⟩ <;> go_keep))) ?_
      clear hK K
      try simp only [Act.put]
      refine wpAnyT_one (i := 14) (by kernel_rfl) rfl (fun K hK => ?_)
      refine step_append_any _ (by rfl) (.tmp 14) (.tmp 26) 161 (by rfl) (w.heap.size + 1 + 1) 163 i0 _ 4 56 Tryz.underlying161 hi0 hz0 hz1 hz2 rfl (by omega) (.slice Av k c) k _ (by simp [Act.eval]) (hR.out.keep (by go_grown)).own 0 (some ⟨w1.heap.size + 1, 0, none⟩) 1 1 (valCells (recN w1.heap.size ⟨rt, rk, rd⟩).v) (by simp [Act.eval]) (rec_new w1 rt rk rd _) (val_one _) (by unfold maxLen; omega) (by omega) (by simp; omega) ?_
      intro v5 w5 own5 g5 at5
      have hb2 : Blk ((w1.alloc (.cells #[.int .i64 1, .int .i64 rt, .string ⟨#[]⟩, .slice none 0 0, .int .i64 1, .int .i64 rk, .string ⟨#[]⟩, .slice none 0 0, .int .i64 2, .int .i64 0, .string rd, .slice none 0 0] 163)).alloc (.cells #[.int .i64 3, .int .i64 0, .string ⟨#[]⟩, .slice (some ⟨w1.heap.size, 0, none⟩) 3 3] 163)) w1.heap.size 163 (cellsN [numN rt, numN rk, txtN rd]).toArray := ((Blk.new w1 _ _).alloc _)
      have hoff : Offs (w.heap.size + 1) (.slice Av k c) w1.heap.size := ⟨(fun e => (by (have := (own_lt hR.out.own _ e.symm).2; omega))), (by omega)⟩
      have hR5 := hid_mk (RowSt.app (x := recN w1.heap.size ⟨rt, rk, rd⟩) (hR.out.keep (by go_grown)) g5 at5 own5 (rec_ok (r := ⟨rt, rk, rd⟩) hb2 hoff hfit.out.1 hfit.out.2.1 hfit.out.2.2.1 hfit.out.2.2.2.1 hfit.out.2.2.2.2))
      have hZ5 := hid_mk (Blk.grown (hZ.out.keep (by go_grown)) g5 (fun e => (by (have := (own_lt hR.out.own _ e.symm).1; omega))))
      have hX5 := hid_mk (Blk.grown (hX.out.keep (by go_grown)) g5 (own_ne hR.out.own hX.out (by decide)))
      have q5 : Below w.heap.size w w5 := grown_below (by go_grown) g5 (fun k2 e => (by (have := (own_lt hR.out.own _ e).1; omega)))
      obtain ⟨A5, c5, rfl, h51, h52⟩ := own_slice own5
      clear hb2 hoff own5 g5 at5 v3 vl x0 x1 x2 xl
      obtain ⟨xl, x0, x1, x2⟩ := blk3 hX5.out
      have v3 := hR5.out.box.cell 3
      have vl := hR5.out.box.lt
      have f3 := hR5.out.box.frozen 3
      change _ = some (Value.slice Av k c) at v3
      refine hK.out _ _ (fun _ => ⟨v3, x0, x1, x2⟩) ?_
      clear hK K
      try simp only [Act.put]
      refine wpAnyT_take (i := 15) rfl (by kernel_rfl) (by kernel_rfl) (by kernel_rfl) rfl (by kernel_rfl) (fun _ _ _ h => h) rfl (fun w' hS => (by obtain ⟨s0, s1, s2, s3⟩ := hS; go_simp; try with_reducible rfl)) ⟨v3, x0, x1, x2⟩ ?_
      simp only [Act.put]
      refine wpAnyT_one (i := 16) (by kernel_rfl) rfl (fun K hK => ?_)
      go_simp
      refine hK.out _ _ (fun h => absurd h (by decide)) ?_
      clear hK K
      try simp only [Act.put]
      refine wpAnyT_done (by kernel_rfl) ?_ _

      go_wp2
      have hP := hid_mk hR5.out.put
      have hZ6 := hid_mk (hZ5.out.far (p := ⟨w.heap.size + 1, 3, none⟩) (by simp) (.slice A5 (k + 1) c5))
      go_roundw
      case rel =>
        refine ⟨k + 1, A5, c5, _, by omega, by go_num, q5.setCell (p := ⟨w.heap.size + 1, 3, none⟩) (by simp) _, hP, hZ6, ?_, ?_⟩
        · rw [Hid]
          have := hc.out
          unfold cntN at *
          rw [List.map_append, List.sum_append_nat, this]
          simp [recN]
          omega
        · have e1 := he.out
          rw [Hid, take_snoc hd.out, List.flatMap_append, ← e1]
          unfold encN
          rw [List.flatMap_append]
          simp [recN]
      case measure => simp [intOf]; omega
    · have hke := hid_mk (show rs.take k = rs from List.take_of_length_le (by have := hlen.out; omega))
      have hkn : Hid (k = n) := (show k = n from by omega)
      have v0 := hR.out.box.cell 0
      have v1 := hR.out.box.cell 1
      have v2 := hR.out.box.cell 2
      change _ = some (Value.int .i64 3) at v0
      change _ = some (Value.int .i64 0) at v1
      change _ = some (Value.string ⟨#[]⟩) at v2
      have zl := hZ.out.lt
      have z0 := hZ.out.cell 0
      have z1 := hZ.out.cell 1
      have z2 := hZ.out.cell 2
      have z3 := hZ.out.cell 3
      have y0 := hZ.out.frozen 0
      have y1 := hZ.out.frozen 1
      have y2 := hZ.out.frozen 2
      have y3 := hZ.out.frozen 3
      change _ = some (Value.int .i64 0) at z0
      change _ = some (Value.int .i64 0) at z1
      change _ = some (Value.string ⟨#[]⟩) at z2
      change _ = some (Value.slice none 0 0) at z3
      go_wp2
      have hS := (((hZ.out.set_ 0 (.int .i64 3)).set_ 1 (.int .i64 0)).set_ 2 (.string ⟨#[]⟩)).set_ 3 (.slice Av k c)
      have e0 := hS.cell 0
      have e1 := hS.cell 1
      have e2 := hS.cell 2
      have e3 := hS.cell 3
      change _ = some (Value.int .i64 3) at e0
      change _ = some (Value.int .i64 0) at e1
      change _ = some (Value.string ⟨#[]⟩) at e2
      change _ = some (Value.slice Av k c) at e3
      refine ends_ret hQ (v := .agg #[.int .i64 3, .int .i64 0, .string ⟨#[]⟩, .slice Av k c]) (by simp [results, Tryz.results177, go_sem, e0, e1, e2, e3]) rfl ?_
      have hL := hR.out.list (by omega)
      rw [hc.out, he.out, hke.out] at hL
      obtain rfl := hkn.out
      refine ⟨⟨Av, c, rfl, VOk.to (by simp [World.setCell]) (fun b hb _ => ?_) (fun b hb _ => ?_) hL⟩, (((hb.setCell (p := ⟨w.heap.size, 0, none⟩) (Nat.le_refl _) _).setCell (p := ⟨w.heap.size, 1, none⟩) (Nat.le_refl _) _).setCell (p := ⟨w.heap.size, 2, none⟩) (Nat.le_refl _) _).setCell (p := ⟨w.heap.size, 3, none⟩) (Nat.le_refl _) _⟩
      · have hbn : b ≠ w.heap.size := by unfold Ups at hb; omega
        rw [Below.heap_setCell _ _ _ _ hbn, Below.heap_setCell _ _ _ _ hbn, Below.heap_setCell _ _ _ _ hbn, Below.heap_setCell _ _ _ _ hbn]
      · unfold Ups at hb ⊢
        omega
end Go.Proofs.YtncdjmpdbinanaaGreatDoor
namespace Go.Proofs.YtncdjmpdbinanaaGreatDoor
open Go.RowKit

def votN (vs : List Int) : List Vn := vs.map numN
def votEnc (vs : List Int) : List UInt8 := 108 :: (encN (votN vs) ++ [101])
def hardN (h : Hd) (Av : Option Addr) (m c : Nat) (A2 : Option Addr) (n c2 : Nat) : List Vn :=
  [numN h.t, numN h.v, numN h.l.base, numN h.l.bt, txtN h.s, ⟨lstV Av m c, 1 + m, votEnc h.vs⟩, ⟨lstV A2 n c2, 1 + 4 * n, recsEnc h.l.rs⟩]
/-- a state's bytes -/
def encH (h : Hd) : List UInt8 := 108 :: ((numN h.t).enc ++ ((numN h.v).enc ++ ((numN h.l.base).enc ++ ((numN h.l.bt).enc ++ ((txtN h.s).enc ++ (votEnc h.vs ++ (recsEnc h.l.rs ++ [])))))) ++ [101])
theorem encH_eq (h : Hd) (Av : Option Addr) (m c : Nat) (A2 : Option Addr) (n c2 : Nat) : 108 :: (encN (hardN h Av m c A2 n c2) ++ [101]) = encH h := rfl
theorem cntH_eq (h : Hd) (Av : Option Addr) (m c : Nat) (A2 : Option Addr) (n c2 : Nat) : cntN (hardN h Av m c A2 n c2) = 5 + (1 + m) + (1 + 4 * n) := by
  simp [cntN, hardN, numN, txtN]
  omega
theorem blk7 {w : World} {g : Nat} {t : TypeId} {a b c d e f k : Value} (h : Blk w g t #[a, b, c, d, e, f, k]) :
    g < w.heap.size ∧ w.cell? ⟨g, 0, none⟩ = some a ∧ w.cell? ⟨g, 1, none⟩ = some b ∧ w.cell? ⟨g, 2, none⟩ = some c ∧ w.cell? ⟨g, 3, none⟩ = some d ∧ w.cell? ⟨g, 4, none⟩ = some e ∧ w.cell? ⟨g, 5, none⟩ = some f ∧ w.cell? ⟨g, 6, none⟩ = some k := ⟨h.lt, h.cell 0, h.cell 1, h.cell 2, h.cell 3, h.cell 4, h.cell 5, h.cell 6⟩
theorem blk4v {w : World} {g : Nat} {t : TypeId} {a b c d : Value} (h : Blk w g t #[a, b, c, d]) :
    g < w.heap.size ∧ w.cell? ⟨g, 0, none⟩ = some a ∧ w.cell? ⟨g, 1, none⟩ = some b ∧ w.cell? ⟨g, 2, none⟩ = some c ∧ w.cell? ⟨g, 3, none⟩ = some d := ⟨h.lt, h.cell 0, h.cell 1, h.cell 2, h.cell 3⟩
theorem S_of {W : World} {gx gb : Nat} {t t' : TypeId} {a b c d e f k y0 y1 y2 y3 : Value} (hX : Blk W gx t #[a, b, c, d, e, f, k]) (hB : Blk W gb t' #[y0, y1, y2, y3]) :
    W.cell? ⟨gx, 0, none⟩ = some a ∧ W.cell? ⟨gx, 1, none⟩ = some b ∧ W.cell? ⟨gx, 2, none⟩ = some c ∧ W.cell? ⟨gx, 3, none⟩ = some d ∧ W.cell? ⟨gx, 4, none⟩ = some e ∧ W.cell? ⟨gx, 5, none⟩ = some f ∧ W.cell? ⟨gb, 0, none⟩ = some y0 ∧ W.cell? ⟨gb, 1, none⟩ = some y1 ∧ W.cell? ⟨gb, 2, none⟩ = some y2 ∧ W.cell? ⟨gb, 3, none⟩ = some y3 :=
  ⟨hX.cell 0, hX.cell 1, hX.cell 2, hX.cell 3, hX.cell 4, hX.cell 5, hB.cell 0, hB.cell 1, hB.cell 2, hB.cell 3⟩
theorem Blk.far4 {w : World} {g gz : Nat} {t : TypeId} {cs : Array Value} (h : Blk w g t cs) (hne : g ≠ gz) (a b c d : Value) : Blk ((((w.setCell ⟨gz, 0, none⟩ a).setCell ⟨gz, 1, none⟩ b).setCell ⟨gz, 2, none⟩ c).setCell ⟨gz, 3, none⟩ d) g t cs :=
  (((h.far (p := ⟨gz, 0, none⟩) hne a).far (p := ⟨gz, 1, none⟩) hne b).far (p := ⟨gz, 2, none⟩) hne c).far (p := ⟨gz, 3, none⟩) hne d
/-- what a state that may be, but for its bytes, is within -/
theorem shaped_bounds {h : Hd} (hs : shapedH h = true) : (0 ≤ h.t ∧ h.t ≤ 1073741824) ∧ (0 ≤ h.v ∧ h.v ≤ 9) ∧ (0 ≤ h.l.base ∧ h.l.base ≤ 1073741824) ∧ (0 ≤ h.l.bt ∧ h.l.bt ≤ 1073741824) ∧ h.l.rs.length ≤ 200 ∧ h.vs.length ≤ 7 ∧ h.s.size ≤ 131072 := by
  unfold shapedH logT inB at hs
  simp only [Bool.and_eq_true, decide_eq_true_eq] at hs
  omega
theorem okT_fit {T : Int} (hT : T ≤ 1073741824) : ∀ (rs : List Rec) (term : Int), 0 ≤ term → okT T term rs = true → ∀ r ∈ rs, RecFit r
  | [], _, _, _, _, h => by cases h
  | r :: rs, term, h0, h, x, hx => by
    rw [okT] at h
    split at h
    · rename_i hc
      simp only [inB, Bool.and_eq_true, decide_eq_true_eq] at hc
      rcases List.mem_cons.1 hx with rfl | hx
      · exact ⟨by omega, by omega, by omega, by omega, by omega⟩
      · exact okT_fit hT rs r.t (by omega) h x hx
    · cases h
theorem shaped_fit {h : Hd} (hs : shapedH h = true) : ∀ r ∈ h.l.rs, RecFit r := by
  have hb := shaped_bounds hs
  unfold shapedH logT at hs
  simp only [Bool.and_eq_true] at hs
  exact okT_fit hb.1.2 h.l.rs (max h.l.bt 1) (by omega) hs.2.1.1.2
theorem asc_fit : ∀ (p : Option Int) (xs : List Int), ascL p xs = true → ∀ x ∈ xs, 1 ≤ x ∧ x ≤ 9
  | _, [], _, _, h => by cases h
  | p, v :: vs, h, x, hx => by
    cases hv : inB v 1 9 with
    | false => rw [asc_out p hv] at h; cases h
    | true =>
      have hb : 1 ≤ v ∧ v ≤ 9 := by simpa [inB] using hv
      rcases List.mem_cons.1 hx with rfl | hx
      · exact hb
      · have h' : ascL (some v) vs = true := by
          cases p with
          | none => rwa [asc_zero hv] at h
          | some u =>
            by_cases hu : v ≤ u
            · rw [asc_low vs hu] at h; cases h
            · rwa [asc_succ hv hu] at h
        exact asc_fit (some v) vs h' x hx
theorem shaped_asc {h : Hd} (hs : shapedH h = true) : ascL none h.vs = true := by
  unfold shapedH at hs
  simp only [Bool.and_eq_true] at hs
  exact hs.2.1.2.1
theorem num_new (w : World) (x : Int) : Reads (w.alloc (.cells #[.int .i64 1, .int .i64 x, .string ⟨#[]⟩, .slice none 0 0] 163)) 0 163 4 (some ⟨w.heap.size, 0, none⟩) 1 (valCells (numN x).v) :=
  reads_new w #[.int .i64 1, .int .i64 x, .string ⟨#[]⟩, .slice none 0 0] 163 1 4 0 rfl
theorem hard_ok {w : World} {S : Nat → Prop} {b : Nat} {h : Hd} {Av A2 : Option Addr} {m c n c2 : Nat} (hb : Blk w b 163 (cellsN (hardN h Av m c A2 n c2)).toArray) (hS : S b) (hs : shapedH h = true)
    (hV : VOk w S 2 (lstV Av m c) (1 + m) (votEnc h.vs)) (hR : VOk w S 3 (lstV A2 n c2) (1 + 4 * n) (recsEnc h.l.rs)) :
    VOk w S 4 (lstV (some ⟨b, 0, none⟩) 7 7) (1 + (5 + (1 + m) + (1 + 4 * n))) (encH h) := by
  obtain ⟨h1, h2, h3, h4, h5, h6, h7⟩ := shaped_bounds hs
  refine .inr (.inr ⟨some ⟨b, 0, none⟩, 7, 7, hardN h Av m c A2 n c2, rfl, by omega, ⟨by rw [cellsN_len]; rfl, fun _ => ⟨b, 0, rfl, hS, hb.lt, fun j u hu => ?_⟩⟩, fun x hx => ?_, by rw [cntH_eq], rfl⟩)
  · rw [Nat.zero_add, hb.cell j, List.getElem?_toArray]; exact hu
  · simp only [hardN, List.mem_cons, List.not_mem_nil, or_false] at hx
    rcases hx with rfl | rfl | rfl | rfl | rfl | rfl | rfl
    · exact num_ok w h1.1 h1.2
    · exact num_ok w h2.1 (by omega)
    · exact num_ok w h3.1 h3.2
    · exact num_ok w h4.1 h4.2
    · exact txt_ok w h7
    · exact hV.deep 1
    · exact hR
set_option maxRecDepth 100000 in
set_option maxHeartbeats 6400000 in
theorem value_any (h : Hd) (R V : Slc) (w : World) {B : Nat} (hr : Recs w B R.A R.n h.l.rs) (hi : Ints w B V.A V.n h.vs) (hs : shapedH h = true) :
    Calls Tryz.prog 149 #[hdV h R V] w fun e w' => (∃ b, e = .returned (.agg #[.int .i64 3, .int .i64 0, .string ⟨#[]⟩, .slice (some ⟨b, 0, none⟩) 7 7]) ∧ VOk w' (Lows w'.heap.size) 4 (lstV (some ⟨b, 0, none⟩) 7 7) (1 + (5 + (1 + V.n) + (1 + 4 * R.n))) (encH h)) ∧ Below w.heap.size w w' := by
  obtain ⟨i0, hi0, hz0, hz1, hz2⟩ := info_val valInfo
  have hbd := shaped_bounds hs
  have hfr := shaped_fit hs
  have hfv := asc_fit none _ (shaped_asc hs)
  obtain ⟨hh, hhe⟩ : ∃ hh, h = hh := ⟨_, rfl⟩
  have hs' := hid_mk hs
  rw [hhe] at hs' ⊢
  obtain ⟨t, hv, ⟨base, bt, rs⟩, s, vs⟩ := h
  obtain ⟨RA, n, Rc⟩ := R
  obtain ⟨VA, m, Vc⟩ := V
  have hlen := hid_mk hr.len
  have hlv := hid_mk hi.len
  dsimp only at hbd hfr hfv hr hi hlen hlv
  have hm7 : m ≤ 7 := by have := hlv.out; omega
  have hn2 : n ≤ 200 := by have := hlen.out; omega
  rw [← hhe]
  unfold hdV
  dsimp only
  replace hhe := hid_mk hhe
  clear hs hbd
  obtain ⟨wa, hwa⟩ : ∃ wa, (w.alloc (.cells #[.int .i64 t, .int .i64 hv, .int .i64 base, .int .i64 bt, .slice RA n Rc, .string s, .slice VA m Vc] 27)).alloc (.cells #[.int .i64 0, .int .i64 0, .string ⟨#[]⟩, .slice none 0 0] 163) = wa := ⟨_, rfl⟩
  have hX0 : Hid (Blk wa w.heap.size 27 #[.int .i64 t, .int .i64 hv, .int .i64 base, .int .i64 bt, .slice RA n Rc, .string s, .slice VA m Vc]) := by rw [← hwa]; exact (Blk.new w _ _).alloc _
  have hZ0 : Hid (Blk wa (w.heap.size + 1) 163 #[.int .i64 0, .int .i64 0, .string ⟨#[]⟩, .slice none 0 0]) := by rw [← hwa]; exact Blk.new_ (by simp)
  have hza : wa.heap.size = w.heap.size + 1 + 1 := by rw [← hwa]; simp
  have hR0 := RowSt.new wa 1
  rw [hza] at hR0
  replace hR0 := hid_mk hR0
  have hX1 := hid_mk (hX0.out.alloc (.cells #[.int .i64 3, .int .i64 0, .string ⟨#[]⟩, .slice none 0 0] 163))
  have hZ1 := hid_mk (hZ0.out.alloc (.cells #[.int .i64 3, .int .i64 0, .string ⟨#[]⟩, .slice none 0 0] 163))
  have q0 : Below w.heap.size w (wa.alloc (.cells #[.int .i64 3, .int .i64 0, .string ⟨#[]⟩, .slice none 0 0] 163)) := by rw [← hwa]; go_grown
  have he0 : Hid (([] : List Vn) = votN (vs.take 0)) := rfl
  rw [← hwa] at hR0 hX1 hZ1 q0
  clear hX0 hZ0 hza hwa wa
  refine calls_of_wpQ Tryz.func149 rfl ?_
  intro Q hQ
  simp only [Tryz.ntmps149, List.size_toArray, List.length_cons, List.length_nil, Nat.reduceAdd, Nat.reduceSub, Array.replicate_succ, Array.replicate_zero, List.push_toArray, List.append_toArray, List.nil_append, List.cons_append]
  go_wp2
  go_loopw [5, 10] (fun _ i wr => ∃ (k : Nat) (Av : Option Addr) (c : Nat) (xs : List Vn), k ≤ m ∧ i = .int .i64 k ∧ Below w.heap.size w wr ∧ Hid (RowSt wr (w.heap.size + 1 + 1) (.slice Av k c) (.slice Av k c) 1 k xs) ∧ Hid (Blk wr w.heap.size 27 #[.int .i64 t, .int .i64 hv, .int .i64 base, .int .i64 bt, .slice RA n Rc, .string s, .slice VA m Vc]) ∧ Hid (Blk wr (w.heap.size + 1) 163 #[.int .i64 0, .int .i64 0, .string ⟨#[]⟩, .slice none 0 0]) ∧ Hid (xs = votN (vs.take k))) (fun _ i _ => m - (intOf i).toNat)
  case atStart => exact ⟨0, none, 0, [], Nat.zero_le _, rfl, q0, hR0, hX1, hZ1, he0⟩
  case round =>
    obtain ⟨k, Av, c, xs, hk, rfl, hb, hR, hX, hZ, he⟩ := hrel
    have v3 := hR.out.box.cell 3
    have vl := hR.out.box.lt
    change _ = some (Value.slice Av k c) at v3
    by_cases hlt : k < m
    · obtain ⟨b, o, x, rfl, hbb, hd, hc⟩ := (hi.to (B := B) hb).at_ hlt
      have hxb := hfv x (List.mem_of_mem_drop (show x ∈ vs.drop k by rw [hd.out]; exact List.mem_cons_self ..))
      have hx0 : 0 ≤ x := by omega
      have hx1 : x ≤ 1073741824 := by omega
      clear hxb
      have hbz := hb.size
      go_wp2_with fail
      refine wp_region_T (fun w' => w'.cell? ⟨w.heap.size + 1 + 1, 3, none⟩ = some (.slice Av k c)) (fun j => decide (j < 7)) 8 (by kernel_rfl) (by kernel_rfl) ?_
      refine wpAnyT_take (i := 0) rfl (by kernel_rfl) (by kernel_rfl) (by kernel_rfl) rfl (by kernel_rfl) (fun _ _ _ h => h) rfl (fun w' hS => (by skip; go_simp; try with_reducible rfl)) v3 ?_
      simp only [Act.put]
      refine wpAnyT_take (i := 1) rfl (by kernel_rfl) (by kernel_rfl) (by kernel_rfl) rfl (by kernel_rfl) (fun _ _ _ h => h) rfl (fun w' hS => (by skip; go_simp; try with_reducible rfl)) v3 ?_
      simp only [Act.put]
      refine wpAnyT_take (i := 2) rfl (by kernel_rfl) (by kernel_rfl) (by kernel_rfl) rfl (by kernel_rfl) (fun _ _ _ h => h) rfl (fun w' hS => (by skip; go_simp; try with_reducible rfl)) v3 ?_
      simp only [Act.put]
      refine wpAnyT_one (i := 3) (by kernel_rfl) rfl (fun K hK => ?_)
      go_simp
      refine (num_any _ _).mono ?_
      rintro e w1 ⟨rfl, hb1⟩
      have q1 := (after (w := w) hb1 (by go_grown)).1
      have hR1 := hid_mk (hR.out.keep (after hb1 (by go_grown)).1)
      have hX1 := hid_mk (hX.out.keep (after hb1 (by go_grown)).1)
      have hZ1 := hid_mk (hZ.out.keep (after hb1 (by go_grown)).1)
      clear hb1 v3 vl
      have v3 := hR1.out.box.cell 3
      have vl := hR1.out.box.lt
      change _ = some (Value.slice Av k c) at v3
      refine hK.out _ _ (fun _ => v3) ?_
      clear hK K
      try simp only [Act.put]
      refine wpAnyT_one (i := 4) (by kernel_rfl) rfl (fun K hK => ?_)
      go_simp
      refine hK.out _ _ (fun _ => (by go_keep)) ?_
      clear hK K
      try simp only [Act.put]
      refine wpAnyT_one (i := 5) (by kernel_rfl) rfl (fun K hK => ?_)
      refine step_append_any _ (by rfl) (.tmp 15) (.tmp 18) 161 (by rfl) (w.heap.size + 1 + 1 + 1) 163 i0 _ 4 56 Tryz.underlying161 hi0 hz0 hz1 hz2 rfl (by omega) (.slice Av k c) k _ (by simp [Act.eval]) (hR1.out.keep (by go_grown)).own 0 (some ⟨w1.heap.size, 0, none⟩) 1 1 (valCells (numN x).v) (by simp [Act.eval]) (num_new w1 x) (val_one _) (by unfold maxLen; omega) (by omega) (by simp; omega) ?_
      intro v5 w5 own5 g5 at5
      have hR5 := hid_mk (RowSt.app (x := numN x) (hR1.out.keep (by go_grown)) g5 at5 own5 (num_ok _ hx0 hx1))
      have hX5 := hid_mk (Blk.grown (hX1.out.keep (by go_grown)) g5 (fun e => (by (have := (own_lt hR1.out.own _ e.symm).1; omega))))
      have hZ5 := hid_mk (Blk.grown (hZ1.out.keep (by go_grown)) g5 (fun e => (by (have := (own_lt hR1.out.own _ e.symm).1; omega))))
      have q5 : Below w.heap.size w w5 := grown_below (by go_grown) g5 (fun k2 e => (by (have := (own_lt hR1.out.own _ e).1; omega)))
      obtain ⟨A5, c5, rfl, h51, h52⟩ := own_slice own5
      clear own5 g5 at5 v3 vl
      have v3 := hR5.out.box.cell 3
      have vl := hR5.out.box.lt
      have f3 := hR5.out.box.frozen 3
      change _ = some (Value.slice Av k c) at v3
      refine hK.out _ _ (fun _ => v3) ?_
      clear hK K
      try simp only [Act.put]
      refine wpAnyT_take (i := 6) rfl (by kernel_rfl) (by kernel_rfl) (by kernel_rfl) rfl (by kernel_rfl) (fun _ _ _ h => h) rfl (fun w' hS => (by skip; go_simp; try with_reducible rfl)) v3 ?_
      simp only [Act.put]
      refine wpAnyT_one (i := 7) (by kernel_rfl) rfl (fun K hK => ?_)
      go_simp
      refine hK.out _ _ (fun h => absurd h (by decide)) ?_
      clear hK K
      try simp only [Act.put]
      refine wpAnyT_done (by kernel_rfl) ?_ _
      go_wp2
      have hP := hid_mk hR5.out.put
      go_roundw
      case rel =>
        refine ⟨k + 1, A5, c5, _, by omega, by go_num, q5.setCell (p := ⟨w.heap.size + 1 + 1, 3, none⟩) (by simp; try omega) _, hP, hX5.out.far (p := ⟨w.heap.size + 1 + 1, 3, none⟩) (by simp; try omega) _, hZ5.out.far (p := ⟨w.heap.size + 1 + 1, 3, none⟩) (by simp; try omega) _, ?_⟩
        rw [Hid, he.out, take_snoc hd.out]
        unfold votN
        rw [List.map_append]
        rfl
      case measure => simp [intOf]; omega
    · have hke := hid_mk (show vs.take k = vs from List.take_of_length_le (by have := hlv.out; omega))
      have hkm : k = m := by omega
      subst hkm
      have hV := hid_mk (show VOk wr (Ups (w.heap.size + 1 + 1)) 2 (lstV Av k c) (1 + k) (votEnc vs) from by
        have := hR.out.list (by omega)
        have e1 := he.out
        rw [hke.out] at e1
        rw [e1] at this
        have e2 : cntN (votN vs) = k := by
          unfold cntN votN
          rw [List.map_map]
          have : ∀ l : List Int, (l.map ((fun x : Vn => x.cnt) ∘ numN)).sum = l.length := by
            intro l
            induction l with
            | nil => rfl
            | cons a l ih => simp [numN] at ih ⊢; omega
          rw [this]
          exact hlv.out
        rw [e2] at this
        exact this)
      have hB := hid_mk hR.out.box
      obtain ⟨xl, x0, x1, x2, x3, x4, x5, x6⟩ := blk7 hX.out
      obtain ⟨yl, y0, y1, y2, y3⟩ := blk4v hB.out
      obtain ⟨zl, z0, z1, z2, z3⟩ := blk4v hZ.out
      have f0 := hZ.out.frozen 0
      have f1 := hZ.out.frozen 1
      have f2 := hZ.out.frozen 2
      have f3 := hZ.out.frozen 3
      clear v3 vl hi0 hz0 hz1 hz2 he hke
      go_wp2_with fail
      have hbz := hb.size
      have qr : Below wr.heap.size wr wr := Below.refl _ _
      have hwz : w.heap.size + 1 + 1 < wr.heap.size := yl
      go_region_held3 (fun w' => w'.cell? ⟨w.heap.size, 0, none⟩ = some (.int .i64 t) ∧ w'.cell? ⟨w.heap.size, 1, none⟩ = some (.int .i64 hv) ∧ w'.cell? ⟨w.heap.size, 2, none⟩ = some (.int .i64 base) ∧ w'.cell? ⟨w.heap.size, 3, none⟩ = some (.int .i64 bt) ∧ w'.cell? ⟨w.heap.size, 4, none⟩ = some (.slice RA n Rc) ∧ w'.cell? ⟨w.heap.size, 5, none⟩ = some (.string s) ∧ w'.cell? ⟨w.heap.size + 1 + 1, 0, none⟩ = some (.int .i64 3) ∧ w'.cell? ⟨w.heap.size + 1 + 1, 1, none⟩ = some (.int .i64 0) ∧ w'.cell? ⟨w.heap.size + 1 + 1, 2, none⟩ = some (.string ⟨#[]⟩) ∧ w'.cell? ⟨w.heap.size + 1 + 1, 3, none⟩ = some (.slice Av k c)) ((first | (refine ⟨?_, ?_, ?_, ?_, ?_, ?_, ?_, ?_, ?_, ?_⟩ <;> with_reducible assumption) | with_reducible exact S_of (hX2.out.alloc _) (hB2.out.alloc _) | with_reducible exact S_of ((hX2.out.far4 (gz := w.heap.size + 1) (by omega) _ _ _ _).alloc _) ((hB2.out.far4 (gz := w.heap.size + 1) (by omega) _ _ _ _).alloc _) | with_reducible exact S_of hX.out.drew hB.out.drew)) (first
        | (go_at_call 176; refine (num_any _ _).mono ?_; rintro e w1 ⟨rfl, hb1⟩; replace qr := (after (w := wr) hb1 (by go_grown)).1; replace hX := hid_mk (hX.out.keep (after hb1 (by go_grown)).1); replace hB := hid_mk (hB.out.keep (after hb1 (by go_grown)).1); replace hZ := hid_mk (hZ.out.keep (after hb1 (by go_grown)).1); clear hb1 xl x0 x1 x2 x3 x4 x5 x6 yl y0 y1 y2 y3 zl z0 z1 z2 z3 f0 f1 f2 f3; obtain ⟨xl, x0, x1, x2, x3, x4, x5, x6⟩ := blk7 hX.out; obtain ⟨yl, y0, y1, y2, y3⟩ := blk4v hB.out; obtain ⟨zl, z0, z1, z2, z3⟩ := blk4v hZ.out; have f0 := hZ.out.frozen 0; have f1 := hZ.out.frozen 1; have f2 := hZ.out.frozen 2; have f3 := hZ.out.frozen 3)
        | (go_at_call 177; refine (records_any rs RA n Rc (w.heap.size + 1 + 1) _ (B := B) (by first | omega | (simp; omega)) (by omega) (hr.to (show Below w.heap.size w _ from Below.trans hb (Below.mono (show Below wr.heap.size wr _ from by go_grown) hbz))) hfr).mono ?_; rintro e w2 ⟨⟨A2, c2, rfl, hL2⟩, hb1⟩; have q2 := (after (w := wr) hb1 (by go_grown)).1; have hX2 := hid_mk (hX.out.keep (after hb1 (by go_grown)).1); have hB2 := hid_mk (hB.out.keep (after hb1 (by go_grown)).1); have hZ2 := hid_mk (hZ.out.keep (after hb1 (by go_grown)).1); replace hL2 := hid_mk hL2; clear hb1 xl x0 x1 x2 x3 x4 x5 x6 yl y0 y1 y2 y3 zl z0 z1 z2 z3 f0 f1 f2 f3; obtain ⟨xl, x0, x1, x2, x3, x4, x5, x6⟩ := blk7 hX2.out; obtain ⟨yl, y0, y1, y2, y3⟩ := blk4v hB2.out; obtain ⟨zl, z0, z1, z2, z3⟩ := blk4v hZ2.out; have f0 := hZ2.out.frozen 0; have f1 := hZ2.out.frozen 1; have f2 := hZ2.out.frozen 2; have f3 := hZ2.out.frozen 3)
        | fail)
      go_wp2
      obtain ⟨wy, hwy⟩ : ∃ wy, (((w2.setCell ⟨w.heap.size + 1, 0, none⟩ (.int .i64 3)).setCell ⟨w.heap.size + 1, 1, none⟩ (.int .i64 0)).setCell ⟨w.heap.size + 1, 2, none⟩ (.string ⟨#[]⟩)).setCell ⟨w.heap.size + 1, 3, none⟩ (.slice (some ⟨w2.heap.size, 0, none⟩) 7 7) = wy := ⟨_, rfl⟩
      rw [hwy]
      have hyz : wy.heap.size = w2.heap.size := by rw [← hwy]; simp [World.setCell]
      have hS : Blk wy (w.heap.size + 1) 163 #[.int .i64 3, .int .i64 0, .string ⟨#[]⟩, .slice (some ⟨w2.heap.size, 0, none⟩) 7 7] := by
        rw [← hwy]
        exact (((hZ2.out.set_ 0 (.int .i64 3)).set_ 1 (.int .i64 0)).set_ 2 (.string ⟨#[]⟩)).set_ 3 (.slice (some ⟨w2.heap.size, 0, none⟩) 7 7)
      have hyb : ∀ b, b ≠ w.heap.size + 1 → wy.heap[b]? = w2.heap[b]? := by
        intro b hb
        rw [← hwy, Below.heap_setCell _ _ _ _ hb, Below.heap_setCell _ _ _ _ hb, Below.heap_setCell _ _ _ _ hb, Below.heap_setCell _ _ _ _ hb]
      have qy : Below w.heap.size w wy := by
        have q := Below.trans hb (q2.mono hbz)
        rw [← hwy]
        exact (((q.setCell (p := ⟨w.heap.size + 1, 0, none⟩) (Nat.le_succ _) _).setCell (p := ⟨w.heap.size + 1, 1, none⟩) (Nat.le_succ _) _).setCell (p := ⟨w.heap.size + 1, 2, none⟩) (Nat.le_succ _) _).setCell (p := ⟨w.heap.size + 1, 3, none⟩) (Nat.le_succ _) _
      clear hwy
      have hrow := Blk.new_ (w := wy) (t := 163) (cs := (cellsN (hardN ⟨t, hv, ⟨base, bt, rs⟩, s, vs⟩ Av k c A2 n c2)).toArray) hyz.symm
      have hS2 := hS.alloc (.cells (cellsN (hardN ⟨t, hv, ⟨base, bt, rs⟩, s, vs⟩ Av k c A2 n c2)).toArray 163)
      have e0 := hS2.cell 0
      have e1 := hS2.cell 1
      have e2 := hS2.cell 2
      have e3 := hS2.cell 3
      change _ = some (Value.int .i64 3) at e0
      change _ = some (Value.int .i64 0) at e1
      change _ = some (Value.string ⟨#[]⟩) at e2
      change _ = some (Value.slice (some ⟨w2.heap.size, 0, none⟩) 7 7) at e3
      obtain ⟨wz, hwz⟩ : ∃ wz, wy.alloc (.cells (cellsN (hardN ⟨t, hv, ⟨base, bt, rs⟩, s, vs⟩ Av k c A2 n c2)).toArray 163) = wz := ⟨_, rfl⟩
      rw [hwz] at hrow e0 e1 e2 e3
      have hwz' : wy.alloc (.cells #[.int .i64 1, .int .i64 t, .string ⟨#[]⟩, .slice none 0 0, .int .i64 1, .int .i64 hv, .string ⟨#[]⟩, .slice none 0 0, .int .i64 1, .int .i64 base, .string ⟨#[]⟩, .slice none 0 0, .int .i64 1, .int .i64 bt, .string ⟨#[]⟩, .slice none 0 0, .int .i64 2, .int .i64 0, .string s, .slice none 0 0, .int .i64 3, .int .i64 0, .string ⟨#[]⟩, .slice Av k c, .int .i64 3, .int .i64 0, .string ⟨#[]⟩, .slice A2 n c2] 163) = wz := hwz
      rw [hwz']
      have hzb : ∀ b, b ≠ w.heap.size + 1 → b < w2.heap.size → wz.heap[b]? = w2.heap[b]? := by
        intro b hb hlt
        rw [← hwz, Below.heap_alloc wy _ b (by omega)]
        exact hyb b hb
      have hzz : wz.heap.size = w2.heap.size + 1 := by rw [← hwz, World.size_alloc, hyz]
      have qz : Below w.heap.size w wz := by rw [← hwz]; exact qy.alloc qy.size _
      clear hwz hwz' hS2 hS hyb hyz qy
      refine ends_ret hQ (v := .agg #[.int .i64 3, .int .i64 0, .string ⟨#[]⟩, .slice (some ⟨w2.heap.size, 0, none⟩) 7 7]) (by simp [results, Tryz.results149, go_sem, e0, e1, e2, e3]) rfl ?_
      have q2z := q2.size
      have hV2 := VOk.to (w' := wz) (S' := Ups (w.heap.size + 1 + 1)) (by omega) (fun b hb hlt => (hzb b (by unfold Ups at hb; omega) (by omega)).trans (q2.block b hlt)) (fun b hb _ => hb) hV.out
      have hL3 := VOk.to (w' := wz) (S' := Ups (w.heap.size + 1 + 1)) (by omega) (fun b hb hlt => hzb b (by unfold Ups at hb; omega) hlt) (fun b hb _ => hb) hL2.out
      have hfin := hard_ok (h := ⟨t, hv, ⟨base, bt, rs⟩, s, vs⟩) hrow (show Ups (w.heap.size + 1 + 1) w2.heap.size from by unfold Ups; omega) (by rw [hhe.out]; exact hs'.out) hV2 hL3
      exact ⟨⟨w2.heap.size, rfl, VOk.to (Nat.le_refl _) (fun _ _ _ => rfl) (fun b _ hlt => hlt) hfin⟩, qz⟩
end Go.Proofs.YtncdjmpdbinanaaGreatDoor
