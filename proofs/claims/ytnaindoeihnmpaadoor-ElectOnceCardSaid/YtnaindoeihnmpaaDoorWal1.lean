/-
  WHAT IS PROVED HERE: the records of a log as a list of values, by wal.records and by the reference's recs. Conditions: at most 200 records, whose numbers and texts are within those of a log that may be.
-/
import Derived.Test.YtnaindoeihnmpaaDoorWal0
import Derived.Test.YtnaindoeihnmpaaDoorEnds
import Derived.Test.YtnaindoeihnmpaaDoorMem
import Derived.Test.YtnaindoeihnmpaaDoorReg
namespace Go.Proofs.YtnaindoeihnmpaaDoor
open Go.RowKit

theorem valInfo : (Tryd.prog.info? 96).map (fun i => (i.zero, i.size, i.bytes)) = some (some (.agg #[.int .i64 0, .int .i64 0, .string ⟨#[]⟩, .slice none 0 0]), 4, 56) := by kernel_rfl
theorem info_val {P : Program} {t : TypeId} {z : Value} {n b : Nat} (h : (P.info? t).map (fun i => (i.zero, i.size, i.bytes)) = some (some z, n, b)) : ∃ i, P.info? t = some i ∧ i.zero = some z ∧ i.size = n ∧ i.bytes = b := by
  cases hi : P.info? t with
  | none => rw [hi] at h; simp at h
  | some i => rw [hi] at h; simp at h; exact ⟨i, rfl, h.1, h.2.1, h.2.2⟩
theorem val_one (v : Vl) : ∀ u ∈ valCells v, u.oneCell' = true := by
  intro u hu
  simp only [valCells, List.mem_cons, List.not_mem_nil, or_false] at hu
  rcases hu with rfl | rfl | rfl | rfl <;> rfl
theorem rec_new (w : World) (rt rk : Int) (rd : ByteArray) (o : Obj) : Reads ((w.alloc o).alloc (.cells #[.int .i64 3, .int .i64 0, .string ⟨#[]⟩, .slice (some ⟨w.heap.size, 0, none⟩) 3 3] 96)) 0 96 4 (some ⟨w.heap.size + 1, 0, none⟩) 1 (valCells (recN w.heap.size ⟨rt, rk, rd⟩).v) := by
  have := reads_new (w.alloc o) #[.int .i64 3, .int .i64 0, .string ⟨#[]⟩, .slice (some ⟨w.heap.size, 0, none⟩) 3 3] 96 1 4 0 rfl
  rw [World.size_alloc] at this
  exact this
theorem take_snoc {α : Type} {xs : List α} {k : Nat} {y : α} (hd : xs.drop k = y :: xs.drop (k + 1)) : xs.take (k + 1) = xs.take k ++ [y] := by
  have hk : k < xs.length := by
    rcases Nat.lt_or_ge k xs.length with h' | h'
    · exact h'
    · rw [List.drop_eq_nil_of_le h'] at hd; cases hd
  have h2 : xs[k]'hk = y := by rw [List.drop_eq_getElem_cons hk] at hd; injection hd
  rw [List.take_succ_eq_append_getElem hk, h2]
/-- a record's numbers and text are such as a log may have -/
def RecFit (r : Rec) : Prop := 0 ≤ r.t ∧ r.t ≤ 1073741824 ∧ 0 ≤ r.k ∧ r.k ≤ 1073741824 ∧ r.d.size ≤ 131072
set_option maxRecDepth 100000 in
set_option maxHeartbeats 6400000 in
theorem records_any (rs : List Rec) (A : Option Addr) (n cap g : Nat) (w : World) {B : Nat} (hg : g ≤ w.heap.size) (hn : n ≤ 900) (h : Recs w B A n rs) (hf : ∀ r ∈ rs, RecFit r) :
    Calls Tryd.prog 74 #[.slice A n cap] w fun e w' => (∃ A' c', e = .returned (.agg #[.int .i64 3, .int .i64 0, .string ⟨#[]⟩, .slice A' n c']) ∧ VOk w' (Ups g) 3 (lstV A' n c') (1 + 4 * n) (recsEnc rs)) ∧ Below w.heap.size w w' := by
  obtain ⟨i0, hi0, hz0, hz1, hz2⟩ := info_val valInfo
  have hlen := hid_mk h.len
  have hR0 := hid_mk (RowSt.new (w.alloc (.cells #[.int .i64 0, .int .i64 0, .string ⟨#[]⟩, .slice none 0 0] 96)) 2)
  have hZ0 := hid_mk ((Blk.new w 96 #[.int .i64 0, .int .i64 0, .string ⟨#[]⟩, .slice none 0 0]).alloc (.cells #[.int .i64 3, .int .i64 0, .string ⟨#[]⟩, .slice none 0 0] 96))
  rw [World.size_alloc] at hR0
  have q0 : Below w.heap.size w ((w.alloc (.cells #[.int .i64 0, .int .i64 0, .string ⟨#[]⟩, .slice none 0 0] 96)).alloc (.cells #[.int .i64 3, .int .i64 0, .string ⟨#[]⟩, .slice none 0 0] 96)) := by go_grown
  have hc0 : Hid (cntN ([] : List Vn) = 4 * 0) := rfl
  have he0 : Hid (encN ([] : List Vn) = (rs.take 0).flatMap recEnc) := rfl
  refine calls_of_wpQ Tryd.func74 rfl ?_
  intro Q hQ
  simp only [Tryd.ntmps74, List.size_toArray, List.length_cons, List.length_nil, Nat.reduceAdd, Nat.reduceSub, Array.replicate_succ, Array.replicate_zero, List.push_toArray, List.append_toArray, List.nil_append, List.cons_append]
  go_wp2
  go_loopw [9] (fun i wr => ∃ (k : Nat) (Av : Option Addr) (c : Nat) (xs : List Vn), k ≤ n ∧ i = .int .i64 k ∧ Below w.heap.size w wr ∧ Hid (RowSt wr (w.heap.size + 1) (.slice Av k c) (.slice Av k c) 2 k xs) ∧ Hid (Blk wr w.heap.size 96 #[.int .i64 0, .int .i64 0, .string ⟨#[]⟩, .slice none 0 0]) ∧ Hid (cntN xs = 4 * k) ∧ Hid (encN xs = (rs.take k).flatMap recEnc)) (fun i _ => n - (intOf i).toNat)
  case atStart => exact ⟨0, none, 0, [], Nat.zero_le _, rfl, q0, hR0, hZ0, hc0, he0⟩
  case round =>
    clear hR0 hZ0 hc0 he0 q0
    obtain ⟨k, Av, c, xs, hk, rfl, hb, hR, hZ, hc, he⟩ := hrel
    have hv3 := hR.out.box.cell 3
    have hgl := hR.out.box.lt
    change _ = some (Value.slice Av k c) at hv3
    by_cases hlt : k < n
    · obtain ⟨b, o, r, rfl, hbb, hd, ct, ck, cd⟩ := (h.below hb).at_ hlt
      have hfit := hid_mk (hf r (List.mem_of_mem_drop (show r ∈ rs.drop k by rw [hd.out]; exact List.mem_cons_self ..)))
      obtain ⟨rt, rk, rd⟩ := r
      dsimp only at *
      have hX : Hid (Blk (wr.alloc (.cells #[.int .i64 rt, .int .i64 rk, .string rd] 55)) wr.heap.size 55 #[.int .i64 rt, .int .i64 rk, .string rd]) := Blk.new wr _ _
      replace hR := hid_mk (hR.out.keep (show Below wr.heap.size wr (wr.alloc (.cells #[.int .i64 rt, .int .i64 rk, .string rd] 55)) from by go_grown))
      replace hZ := hid_mk (hZ.out.keep (show Below wr.heap.size wr (wr.alloc (.cells #[.int .i64 rt, .int .i64 rk, .string rd] 55)) from by go_grown))
      have q : Below w.heap.size w (wr.alloc (.cells #[.int .i64 rt, .int .i64 rk, .string rd] 55)) := hb.alloc hb.size _
      have hz : w.heap.size + 1 < wr.heap.size := hgl
      have hng1 : ¬ wr.heap.size = w.heap.size + 1 := by omega
      have hng2 : ¬ w.heap.size + 1 = wr.heap.size := by omega
      go_wp2_with fail
      obtain ⟨xl, x0, x1, x2⟩ := blk3 hX.out
      have v3 := hR.out.box.cell 3
      have vl := hR.out.box.lt
      change _ = some (Value.slice Av k c) at v3
      refine wp_region_T (fun w' => w'.cell? ⟨w.heap.size + 1, 3, none⟩ = some (.slice Av k c) ∧ w'.cell? ⟨wr.heap.size, 0, none⟩ = some (.int .i64 rt) ∧ w'.cell? ⟨wr.heap.size, 1, none⟩ = some (.int .i64 rk) ∧ w'.cell? ⟨wr.heap.size, 2, none⟩ = some (.string rd)) (fun j => decide (j < 16)) 17 (by kernel_rfl) (by kernel_rfl) ?_
      refine wpAnyT_take (i := 0) rfl (by kernel_rfl) (by kernel_rfl) (by kernel_rfl) rfl (by kernel_rfl) (fun _ _ _ h => h) rfl (fun w' hS => (by obtain ⟨s0, s1, s2, s3⟩ := hS; go_simp; try with_reducible rfl)) ⟨v3, x0, x1, x2⟩ ?_
      simp only [Act.put]
      refine wpAnyT_take (i := 1) rfl (by kernel_rfl) (by kernel_rfl) (by kernel_rfl) rfl (by kernel_rfl) (fun _ _ _ h => h) rfl (fun w' hS => (by obtain ⟨s0, s1, s2, s3⟩ := hS; go_simp; try with_reducible rfl)) ⟨v3, x0, x1, x2⟩ ?_
      simp only [Act.put]
      refine wpAnyT_take (i := 2) rfl (by kernel_rfl) (by kernel_rfl) (by kernel_rfl) rfl (by kernel_rfl) (fun _ _ _ h => h) rfl (fun w' hS => (by obtain ⟨s0, s1, s2, s3⟩ := hS; go_simp; try with_reducible rfl)) ⟨v3, x0, x1, x2⟩ ?_
      simp only [Act.put]
      refine wpAnyT_take (i := 3) rfl (by kernel_rfl) (by kernel_rfl) (by kernel_rfl) rfl (by kernel_rfl) (fun _ _ _ h => h) rfl (fun w' hS => (by obtain ⟨s0, s1, s2, s3⟩ := hS; go_simp; try with_reducible rfl)) ⟨v3, x0, x1, x2⟩ ?_
      simp only [Act.put]
      refine wpAnyT_take (i := 5) rfl (by kernel_rfl) (by kernel_rfl) (by kernel_rfl) rfl (by kernel_rfl) (fun _ _ _ h => h) rfl (fun w' hS => (by obtain ⟨s0, s1, s2, s3⟩ := hS; go_simp; try with_reducible rfl)) ⟨v3, x0, x1, x2⟩ ?_
      simp only [Act.put]
      refine wpAnyT_take (i := 6) rfl (by kernel_rfl) (by kernel_rfl) (by kernel_rfl) rfl (by kernel_rfl) (fun _ _ _ h => h) rfl (fun w' hS => (by obtain ⟨s0, s1, s2, s3⟩ := hS; go_simp; try with_reducible rfl)) ⟨v3, x0, x1, x2⟩ ?_
      simp only [Act.put]
      refine wpAnyT_take (i := 8) rfl (by kernel_rfl) (by kernel_rfl) (by kernel_rfl) rfl (by kernel_rfl) (fun _ _ _ h => h) rfl (fun w' hS => (by obtain ⟨s0, s1, s2, s3⟩ := hS; go_simp; try with_reducible rfl)) ⟨v3, x0, x1, x2⟩ ?_
      simp only [Act.put]
      refine wpAnyT_take (i := 9) rfl (by kernel_rfl) (by kernel_rfl) (by kernel_rfl) rfl (by kernel_rfl) (fun _ _ _ h => h) rfl (fun w' hS => (by obtain ⟨s0, s1, s2, s3⟩ := hS; go_simp; try with_reducible rfl)) ⟨v3, x0, x1, x2⟩ ?_
      simp only [Act.put]
      refine wpAnyT_take (i := 10) rfl (by kernel_rfl) (by kernel_rfl) (by kernel_rfl) rfl (by kernel_rfl) (fun _ _ _ h => h) rfl (fun w' hS => (by obtain ⟨s0, s1, s2, s3⟩ := hS; go_simp; try with_reducible rfl)) ⟨v3, x0, x1, x2⟩ ?_
      simp only [Act.put]
      refine wpAnyT_one (i := 4) (by kernel_rfl) rfl (fun K hK => ?_)
      go_simp
      refine (num_any _ _).mono ?_
      rintro e w1 ⟨rfl, hb1⟩
      replace q := (after (w := w) hb1 (by go_grown)).1
      replace hX := hid_mk (hX.out.keep (after hb1 (by go_grown)).1)
      replace hR := hid_mk (hR.out.keep (after hb1 (by go_grown)).1)
      replace hZ := hid_mk (hZ.out.keep (after hb1 (by go_grown)).1)
      clear hb1 xl x0 x1 x2 v3 vl
      obtain ⟨xl, x0, x1, x2⟩ := blk3 hX.out
      have v3 := hR.out.box.cell 3
      have vl := hR.out.box.lt
      change _ = some (Value.slice Av k c) at v3
      refine hK.out _ _ (fun _ => ⟨v3, x0, x1, x2⟩) ?_
      clear hK K
      try simp only [Act.put]
      refine wpAnyT_one (i := 7) (by kernel_rfl) rfl (fun K hK => ?_)
      go_simp
      refine (num_any _ _).mono ?_
      rintro e w1 ⟨rfl, hb1⟩
      replace q := (after (w := w) hb1 (by go_grown)).1
      replace hX := hid_mk (hX.out.keep (after hb1 (by go_grown)).1)
      replace hR := hid_mk (hR.out.keep (after hb1 (by go_grown)).1)
      replace hZ := hid_mk (hZ.out.keep (after hb1 (by go_grown)).1)
      clear hb1 xl x0 x1 x2 v3 vl
      obtain ⟨xl, x0, x1, x2⟩ := blk3 hX.out
      have v3 := hR.out.box.cell 3
      have vl := hR.out.box.lt
      change _ = some (Value.slice Av k c) at v3
      refine hK.out _ _ (fun _ => ⟨v3, x0, x1, x2⟩) ?_
      clear hK K
      try simp only [Act.put]
      refine wpAnyT_one (i := 11) (by kernel_rfl) rfl (fun K hK => ?_)
      go_simp
      refine hK.out _ _ (fun _ => (by (refine ⟨?_, ?_, ?_, ?_⟩ <;> go_keep))) ?_
      clear hK K
      try simp only [Act.put]
      refine wpAnyT_take (i := 12) rfl (by kernel_rfl) (by kernel_rfl) (by kernel_rfl) rfl (by kernel_rfl) (fun _ _ _ h => h) rfl (fun w' hS => (by obtain ⟨s0, s1, s2, s3⟩ := hS; go_simp; try with_reducible rfl)) (by (refine ⟨?_, ?_, ?_, ?_⟩ <;> go_keep)) ?_
      simp only [Act.put]
      refine wpAnyT_one (i := 13) (by kernel_rfl) rfl (fun K hK => ?_)
      go_simp
      refine hK.out _ _ (fun _ => (by (refine ⟨?_, ?_, ?_, ?_⟩ <;> go_keep))) ?_
      clear hK K
      try simp only [Act.put]
      refine wpAnyT_one (i := 14) (by kernel_rfl) rfl (fun K hK => ?_)
      refine step_append_any _ (by rfl) (.tmp 14) (.tmp 26) 94 (by rfl) (w.heap.size + 1 + 1) 96 i0 _ 4 56 Tryd.underlying94 hi0 hz0 hz1 hz2 rfl (by omega) (.slice Av k c) k _ (by simp [Act.eval]) (hR.out.keep (by go_grown)).own 0 (some ⟨w1.heap.size + 1, 0, none⟩) 1 1 (valCells (recN w1.heap.size ⟨rt, rk, rd⟩).v) (by simp [Act.eval]) (rec_new w1 rt rk rd _) (val_one _) (by unfold maxLen; omega) (by omega) (by simp; omega) ?_
      intro v5 w5 own5 g5 at5
      have hb2 : Blk ((w1.alloc (.cells #[.int .i64 1, .int .i64 rt, .string ⟨#[]⟩, .slice none 0 0, .int .i64 1, .int .i64 rk, .string ⟨#[]⟩, .slice none 0 0, .int .i64 2, .int .i64 0, .string rd, .slice none 0 0] 96)).alloc (.cells #[.int .i64 3, .int .i64 0, .string ⟨#[]⟩, .slice (some ⟨w1.heap.size, 0, none⟩) 3 3] 96)) w1.heap.size 96 (cellsN [numN rt, numN rk, txtN rd]).toArray := ((Blk.new w1 _ _).alloc _)
      have hoff : Offs (w.heap.size + 1) (.slice Av k c) w1.heap.size := ⟨(fun e => (by (have := (own_lt hR.out.own _ e.symm).2; omega))), (by omega)⟩
      have hR5 := hid_mk (RowSt.app (x := recN w1.heap.size ⟨rt, rk, rd⟩) (hR.out.keep (by go_grown)) g5 at5 own5 (rec_ok (r := ⟨rt, rk, rd⟩) hb2 hoff hfit.out.1 hfit.out.2.1 hfit.out.2.2.1 hfit.out.2.2.2.1 hfit.out.2.2.2.2))
      have hZ5 := hid_mk (Blk.grown (hZ.out.keep (by go_grown)) g5 (fun e => (by (have := (own_lt hR.out.own _ e.symm).1; omega))))
      have hX5 := hid_mk (Blk.grown (hX.out.keep (by go_grown)) g5 (own_ne hR.out.own hX.out (by decide)))
      have q5 : Below w.heap.size w w5 := grown_below (by go_grown) g5 (fun k2 e => (by (have := (own_lt hR.out.own _ e).1; omega)))
      obtain ⟨A5, c5, rfl, h51, h52⟩ := own_slice own5
      clear hb2 hoff own5 g5 at5 v3 vl x0 x1 x2 xl
      obtain ⟨xl, x0, x1, x2⟩ := blk3 hX5.out
      have v3 := hR5.out.box.cell 3
      have vl := hR5.out.box.lt
      have f3 := hR5.out.box.frozen 3
      change _ = some (Value.slice Av k c) at v3
      refine hK.out _ _ (fun _ => ⟨v3, x0, x1, x2⟩) ?_
      clear hK K
      try simp only [Act.put]
      refine wpAnyT_take (i := 15) rfl (by kernel_rfl) (by kernel_rfl) (by kernel_rfl) rfl (by kernel_rfl) (fun _ _ _ h => h) rfl (fun w' hS => (by obtain ⟨s0, s1, s2, s3⟩ := hS; go_simp; try with_reducible rfl)) ⟨v3, x0, x1, x2⟩ ?_
      simp only [Act.put]
      refine wpAnyT_one (i := 16) (by kernel_rfl) rfl (fun K hK => ?_)
      go_simp
      refine hK.out _ _ (fun h => absurd h (by decide)) ?_
      clear hK K
      try simp only [Act.put]
      refine wpAnyT_done (by kernel_rfl) ?_ _

      go_wp2
      have hP := hid_mk hR5.out.put
      have hZ6 := hid_mk (hZ5.out.far (p := ⟨w.heap.size + 1, 3, none⟩) (by simp) (.slice A5 (k + 1) c5))
      go_roundw
      case rel =>
        refine ⟨k + 1, A5, c5, _, by omega, by go_num, q5.setCell (p := ⟨w.heap.size + 1, 3, none⟩) (by simp) _, hP, hZ6, ?_, ?_⟩
        · rw [Hid]
          have := hc.out
          unfold cntN at *
          rw [List.map_append, List.sum_append_nat, this]
          simp [recN]
          omega
        · have e1 := he.out
          rw [Hid, take_snoc hd.out, List.flatMap_append, ← e1]
          unfold encN
          rw [List.flatMap_append]
          simp [recN]
      case measure => simp [intOf]; omega
    · have hke := hid_mk (show rs.take k = rs from List.take_of_length_le (by have := hlen.out; omega))
      have hkn : Hid (k = n) := (show k = n from by omega)
      have v0 := hR.out.box.cell 0
      have v1 := hR.out.box.cell 1
      have v2 := hR.out.box.cell 2
      change _ = some (Value.int .i64 3) at v0
      change _ = some (Value.int .i64 0) at v1
      change _ = some (Value.string ⟨#[]⟩) at v2
      have zl := hZ.out.lt
      have z0 := hZ.out.cell 0
      have z1 := hZ.out.cell 1
      have z2 := hZ.out.cell 2
      have z3 := hZ.out.cell 3
      have y0 := hZ.out.frozen 0
      have y1 := hZ.out.frozen 1
      have y2 := hZ.out.frozen 2
      have y3 := hZ.out.frozen 3
      change _ = some (Value.int .i64 0) at z0
      change _ = some (Value.int .i64 0) at z1
      change _ = some (Value.string ⟨#[]⟩) at z2
      change _ = some (Value.slice none 0 0) at z3
      go_wp2
      have hS := (((hZ.out.set_ 0 (.int .i64 3)).set_ 1 (.int .i64 0)).set_ 2 (.string ⟨#[]⟩)).set_ 3 (.slice Av k c)
      have e0 := hS.cell 0
      have e1 := hS.cell 1
      have e2 := hS.cell 2
      have e3 := hS.cell 3
      change _ = some (Value.int .i64 3) at e0
      change _ = some (Value.int .i64 0) at e1
      change _ = some (Value.string ⟨#[]⟩) at e2
      change _ = some (Value.slice Av k c) at e3
      refine ends_ret hQ (v := .agg #[.int .i64 3, .int .i64 0, .string ⟨#[]⟩, .slice Av k c]) (by simp [results, Tryd.results74, go_sem, e0, e1, e2, e3]) rfl ?_
      have hL := hR.out.list (by omega)
      rw [hc.out, he.out, hke.out] at hL
      obtain rfl := hkn.out
      refine ⟨⟨Av, c, rfl, VOk.to (by simp [World.setCell]) (fun b hb _ => ?_) (fun b hb _ => ?_) hL⟩, (((hb.setCell (p := ⟨w.heap.size, 0, none⟩) (Nat.le_refl _) _).setCell (p := ⟨w.heap.size, 1, none⟩) (Nat.le_refl _) _).setCell (p := ⟨w.heap.size, 2, none⟩) (Nat.le_refl _) _).setCell (p := ⟨w.heap.size, 3, none⟩) (Nat.le_refl _) _⟩
      · have hbn : b ≠ w.heap.size := by unfold Ups at hb; omega
        rw [Below.heap_setCell _ _ _ _ hbn, Below.heap_setCell _ _ _ _ hbn, Below.heap_setCell _ _ _ _ hbn, Below.heap_setCell _ _ _ _ hbn]
      · unfold Ups at hb ⊢
        omega
set_option maxRecDepth 100000 in
set_option maxHeartbeats 6400000 in
theorem rrecs_any (rs : List Rec) (A : Option Addr) (n cap g : Nat) (w : World) {B : Nat} (hg : g ≤ w.heap.size) (hn : n ≤ 900) (h : Recs w B A n rs) (hf : ∀ r ∈ rs, RecFit r) :
    Calls Tryd.prog 59 #[.slice A n cap] w fun e w' => (∃ A' c', e = .returned (.agg #[.int .i64 3, .int .i64 0, .string ⟨#[]⟩, .slice A' n c']) ∧ VOk w' (Ups g) 3 (lstV A' n c') (1 + 4 * n) (recsEnc rs)) ∧ Below w.heap.size w w' := by
  obtain ⟨i0, hi0, hz0, hz1, hz2⟩ := info_val valInfo
  have hlen := hid_mk h.len
  have hR0 := hid_mk (RowSt.new (w.alloc (.cells #[.int .i64 0, .int .i64 0, .string ⟨#[]⟩, .slice none 0 0] 96)) 2)
  have hZ0 := hid_mk ((Blk.new w 96 #[.int .i64 0, .int .i64 0, .string ⟨#[]⟩, .slice none 0 0]).alloc (.cells #[.int .i64 3, .int .i64 0, .string ⟨#[]⟩, .slice none 0 0] 96))
  rw [World.size_alloc] at hR0
  have q0 : Below w.heap.size w ((w.alloc (.cells #[.int .i64 0, .int .i64 0, .string ⟨#[]⟩, .slice none 0 0] 96)).alloc (.cells #[.int .i64 3, .int .i64 0, .string ⟨#[]⟩, .slice none 0 0] 96)) := by go_grown
  have hc0 : Hid (cntN ([] : List Vn) = 4 * 0) := rfl
  have he0 : Hid (encN ([] : List Vn) = (rs.take 0).flatMap recEnc) := rfl
  refine calls_of_wpQ Tryd.func59 rfl ?_
  intro Q hQ
  simp only [Tryd.ntmps59, List.size_toArray, List.length_cons, List.length_nil, Nat.reduceAdd, Nat.reduceSub, Array.replicate_succ, Array.replicate_zero, List.push_toArray, List.append_toArray, List.nil_append, List.cons_append]
  go_wp2
  go_loopw [9] (fun i wr => ∃ (k : Nat) (Av : Option Addr) (c : Nat) (xs : List Vn), k ≤ n ∧ i = .int .i64 k ∧ Below w.heap.size w wr ∧ Hid (RowSt wr (w.heap.size + 1) (.slice Av k c) (.slice Av k c) 2 k xs) ∧ Hid (Blk wr w.heap.size 96 #[.int .i64 0, .int .i64 0, .string ⟨#[]⟩, .slice none 0 0]) ∧ Hid (cntN xs = 4 * k) ∧ Hid (encN xs = (rs.take k).flatMap recEnc)) (fun i _ => n - (intOf i).toNat)
  case atStart => exact ⟨0, none, 0, [], Nat.zero_le _, rfl, q0, hR0, hZ0, hc0, he0⟩
  case round =>
    clear hR0 hZ0 hc0 he0 q0
    obtain ⟨k, Av, c, xs, hk, rfl, hb, hR, hZ, hc, he⟩ := hrel
    have hv3 := hR.out.box.cell 3
    have hgl := hR.out.box.lt
    change _ = some (Value.slice Av k c) at hv3
    by_cases hlt : k < n
    · obtain ⟨b, o, r, rfl, hbb, hd, ct, ck, cd⟩ := (h.below hb).at_ hlt
      have hfit := hid_mk (hf r (List.mem_of_mem_drop (show r ∈ rs.drop k by rw [hd.out]; exact List.mem_cons_self ..)))
      obtain ⟨rt, rk, rd⟩ := r
      dsimp only at *
      have hX : Hid (Blk (wr.alloc (.cells #[.int .i64 rt, .int .i64 rk, .string rd] 55)) wr.heap.size 55 #[.int .i64 rt, .int .i64 rk, .string rd]) := Blk.new wr _ _
      replace hR := hid_mk (hR.out.keep (show Below wr.heap.size wr (wr.alloc (.cells #[.int .i64 rt, .int .i64 rk, .string rd] 55)) from by go_grown))
      replace hZ := hid_mk (hZ.out.keep (show Below wr.heap.size wr (wr.alloc (.cells #[.int .i64 rt, .int .i64 rk, .string rd] 55)) from by go_grown))
      have q : Below w.heap.size w (wr.alloc (.cells #[.int .i64 rt, .int .i64 rk, .string rd] 55)) := hb.alloc hb.size _
      have hz : w.heap.size + 1 < wr.heap.size := hgl
      have hng1 : ¬ wr.heap.size = w.heap.size + 1 := by omega
      have hng2 : ¬ w.heap.size + 1 = wr.heap.size := by omega
      go_wp2_with fail
      obtain ⟨xl, x0, x1, x2⟩ := blk3 hX.out
      have v3 := hR.out.box.cell 3
      have vl := hR.out.box.lt
      change _ = some (Value.slice Av k c) at v3
      refine wp_region_T (fun w' => w'.cell? ⟨w.heap.size + 1, 3, none⟩ = some (.slice Av k c) ∧ w'.cell? ⟨wr.heap.size, 0, none⟩ = some (.int .i64 rt) ∧ w'.cell? ⟨wr.heap.size, 1, none⟩ = some (.int .i64 rk) ∧ w'.cell? ⟨wr.heap.size, 2, none⟩ = some (.string rd)) (fun j => decide (j < 16)) 17 (by kernel_rfl) (by kernel_rfl) ?_
      refine wpAnyT_take (i := 0) rfl (by kernel_rfl) (by kernel_rfl) (by kernel_rfl) rfl (by kernel_rfl) (fun _ _ _ h => h) rfl (fun w' hS => (by obtain ⟨s0, s1, s2, s3⟩ := hS; go_simp; try with_reducible rfl)) ⟨v3, x0, x1, x2⟩ ?_
      simp only [Act.put]
      refine wpAnyT_take (i := 1) rfl (by kernel_rfl) (by kernel_rfl) (by kernel_rfl) rfl (by kernel_rfl) (fun _ _ _ h => h) rfl (fun w' hS => (by obtain ⟨s0, s1, s2, s3⟩ := hS; go_simp; try with_reducible rfl)) ⟨v3, x0, x1, x2⟩ ?_
      simp only [Act.put]
      refine wpAnyT_take (i := 2) rfl (by kernel_rfl) (by kernel_rfl) (by kernel_rfl) rfl (by kernel_rfl) (fun _ _ _ h => h) rfl (fun w' hS => (by obtain ⟨s0, s1, s2, s3⟩ := hS; go_simp; try with_reducible rfl)) ⟨v3, x0, x1, x2⟩ ?_
      simp only [Act.put]
      refine wpAnyT_take (i := 3) rfl (by kernel_rfl) (by kernel_rfl) (by kernel_rfl) rfl (by kernel_rfl) (fun _ _ _ h => h) rfl (fun w' hS => (by obtain ⟨s0, s1, s2, s3⟩ := hS; go_simp; try with_reducible rfl)) ⟨v3, x0, x1, x2⟩ ?_
      simp only [Act.put]
      refine wpAnyT_take (i := 5) rfl (by kernel_rfl) (by kernel_rfl) (by kernel_rfl) rfl (by kernel_rfl) (fun _ _ _ h => h) rfl (fun w' hS => (by obtain ⟨s0, s1, s2, s3⟩ := hS; go_simp; try with_reducible rfl)) ⟨v3, x0, x1, x2⟩ ?_
      simp only [Act.put]
      refine wpAnyT_take (i := 6) rfl (by kernel_rfl) (by kernel_rfl) (by kernel_rfl) rfl (by kernel_rfl) (fun _ _ _ h => h) rfl (fun w' hS => (by obtain ⟨s0, s1, s2, s3⟩ := hS; go_simp; try with_reducible rfl)) ⟨v3, x0, x1, x2⟩ ?_
      simp only [Act.put]
      refine wpAnyT_take (i := 8) rfl (by kernel_rfl) (by kernel_rfl) (by kernel_rfl) rfl (by kernel_rfl) (fun _ _ _ h => h) rfl (fun w' hS => (by obtain ⟨s0, s1, s2, s3⟩ := hS; go_simp; try with_reducible rfl)) ⟨v3, x0, x1, x2⟩ ?_
      simp only [Act.put]
      refine wpAnyT_take (i := 9) rfl (by kernel_rfl) (by kernel_rfl) (by kernel_rfl) rfl (by kernel_rfl) (fun _ _ _ h => h) rfl (fun w' hS => (by obtain ⟨s0, s1, s2, s3⟩ := hS; go_simp; try with_reducible rfl)) ⟨v3, x0, x1, x2⟩ ?_
      simp only [Act.put]
      refine wpAnyT_take (i := 10) rfl (by kernel_rfl) (by kernel_rfl) (by kernel_rfl) rfl (by kernel_rfl) (fun _ _ _ h => h) rfl (fun w' hS => (by obtain ⟨s0, s1, s2, s3⟩ := hS; go_simp; try with_reducible rfl)) ⟨v3, x0, x1, x2⟩ ?_
      simp only [Act.put]
      refine wpAnyT_one (i := 4) (by kernel_rfl) rfl (fun K hK => ?_)
      go_simp
      refine (rnum_any _ _).mono ?_
      rintro e w1 ⟨rfl, hb1⟩
      replace q := (after (w := w) hb1 (by go_grown)).1
      replace hX := hid_mk (hX.out.keep (after hb1 (by go_grown)).1)
      replace hR := hid_mk (hR.out.keep (after hb1 (by go_grown)).1)
      replace hZ := hid_mk (hZ.out.keep (after hb1 (by go_grown)).1)
      clear hb1 xl x0 x1 x2 v3 vl
      obtain ⟨xl, x0, x1, x2⟩ := blk3 hX.out
      have v3 := hR.out.box.cell 3
      have vl := hR.out.box.lt
      change _ = some (Value.slice Av k c) at v3
      refine hK.out _ _ (fun _ => ⟨v3, x0, x1, x2⟩) ?_
      clear hK K
      try simp only [Act.put]
      refine wpAnyT_one (i := 7) (by kernel_rfl) rfl (fun K hK => ?_)
      go_simp
      refine (rnum_any _ _).mono ?_
      rintro e w1 ⟨rfl, hb1⟩
      replace q := (after (w := w) hb1 (by go_grown)).1
      replace hX := hid_mk (hX.out.keep (after hb1 (by go_grown)).1)
      replace hR := hid_mk (hR.out.keep (after hb1 (by go_grown)).1)
      replace hZ := hid_mk (hZ.out.keep (after hb1 (by go_grown)).1)
      clear hb1 xl x0 x1 x2 v3 vl
      obtain ⟨xl, x0, x1, x2⟩ := blk3 hX.out
      have v3 := hR.out.box.cell 3
      have vl := hR.out.box.lt
      change _ = some (Value.slice Av k c) at v3
      refine hK.out _ _ (fun _ => ⟨v3, x0, x1, x2⟩) ?_
      clear hK K
      try simp only [Act.put]
      refine wpAnyT_one (i := 11) (by kernel_rfl) rfl (fun K hK => ?_)
      go_simp
      refine hK.out _ _ (fun _ => (by (refine ⟨?_, ?_, ?_, ?_⟩ <;> go_keep))) ?_
      clear hK K
      try simp only [Act.put]
      refine wpAnyT_take (i := 12) rfl (by kernel_rfl) (by kernel_rfl) (by kernel_rfl) rfl (by kernel_rfl) (fun _ _ _ h => h) rfl (fun w' hS => (by obtain ⟨s0, s1, s2, s3⟩ := hS; go_simp; try with_reducible rfl)) (by (refine ⟨?_, ?_, ?_, ?_⟩ <;> go_keep)) ?_
      simp only [Act.put]
      refine wpAnyT_one (i := 13) (by kernel_rfl) rfl (fun K hK => ?_)
      go_simp
      refine hK.out _ _ (fun _ => (by (refine ⟨?_, ?_, ?_, ?_⟩ <;> go_keep))) ?_
      clear hK K
      try simp only [Act.put]
      refine wpAnyT_one (i := 14) (by kernel_rfl) rfl (fun K hK => ?_)
      refine step_append_any _ (by rfl) (.tmp 14) (.tmp 26) 94 (by rfl) (w.heap.size + 1 + 1) 96 i0 _ 4 56 Tryd.underlying94 hi0 hz0 hz1 hz2 rfl (by omega) (.slice Av k c) k _ (by simp [Act.eval]) (hR.out.keep (by go_grown)).own 0 (some ⟨w1.heap.size + 1, 0, none⟩) 1 1 (valCells (recN w1.heap.size ⟨rt, rk, rd⟩).v) (by simp [Act.eval]) (rec_new w1 rt rk rd _) (val_one _) (by unfold maxLen; omega) (by omega) (by simp; omega) ?_
      intro v5 w5 own5 g5 at5
      have hb2 : Blk ((w1.alloc (.cells #[.int .i64 1, .int .i64 rt, .string ⟨#[]⟩, .slice none 0 0, .int .i64 1, .int .i64 rk, .string ⟨#[]⟩, .slice none 0 0, .int .i64 2, .int .i64 0, .string rd, .slice none 0 0] 96)).alloc (.cells #[.int .i64 3, .int .i64 0, .string ⟨#[]⟩, .slice (some ⟨w1.heap.size, 0, none⟩) 3 3] 96)) w1.heap.size 96 (cellsN [numN rt, numN rk, txtN rd]).toArray := ((Blk.new w1 _ _).alloc _)
      have hoff : Offs (w.heap.size + 1) (.slice Av k c) w1.heap.size := ⟨(fun e => (by (have := (own_lt hR.out.own _ e.symm).2; omega))), (by omega)⟩
      have hR5 := hid_mk (RowSt.app (x := recN w1.heap.size ⟨rt, rk, rd⟩) (hR.out.keep (by go_grown)) g5 at5 own5 (rec_ok (r := ⟨rt, rk, rd⟩) hb2 hoff hfit.out.1 hfit.out.2.1 hfit.out.2.2.1 hfit.out.2.2.2.1 hfit.out.2.2.2.2))
      have hZ5 := hid_mk (Blk.grown (hZ.out.keep (by go_grown)) g5 (fun e => (by (have := (own_lt hR.out.own _ e.symm).1; omega))))
      have hX5 := hid_mk (Blk.grown (hX.out.keep (by go_grown)) g5 (own_ne hR.out.own hX.out (by decide)))
      have q5 : Below w.heap.size w w5 := grown_below (by go_grown) g5 (fun k2 e => (by (have := (own_lt hR.out.own _ e).1; omega)))
      obtain ⟨A5, c5, rfl, h51, h52⟩ := own_slice own5
      clear hb2 hoff own5 g5 at5 v3 vl x0 x1 x2 xl
      obtain ⟨xl, x0, x1, x2⟩ := blk3 hX5.out
      have v3 := hR5.out.box.cell 3
      have vl := hR5.out.box.lt
      have f3 := hR5.out.box.frozen 3
      change _ = some (Value.slice Av k c) at v3
      refine hK.out _ _ (fun _ => ⟨v3, x0, x1, x2⟩) ?_
      clear hK K
      try simp only [Act.put]
      refine wpAnyT_take (i := 15) rfl (by kernel_rfl) (by kernel_rfl) (by kernel_rfl) rfl (by kernel_rfl) (fun _ _ _ h => h) rfl (fun w' hS => (by obtain ⟨s0, s1, s2, s3⟩ := hS; go_simp; try with_reducible rfl)) ⟨v3, x0, x1, x2⟩ ?_
      simp only [Act.put]
      refine wpAnyT_one (i := 16) (by kernel_rfl) rfl (fun K hK => ?_)
      go_simp
      refine hK.out _ _ (fun h => absurd h (by decide)) ?_
      clear hK K
      try simp only [Act.put]
      refine wpAnyT_done (by kernel_rfl) ?_ _

      go_wp2
      have hP := hid_mk hR5.out.put
      have hZ6 := hid_mk (hZ5.out.far (p := ⟨w.heap.size + 1, 3, none⟩) (by simp) (.slice A5 (k + 1) c5))
      go_roundw
      case rel =>
        refine ⟨k + 1, A5, c5, _, by omega, by go_num, q5.setCell (p := ⟨w.heap.size + 1, 3, none⟩) (by simp) _, hP, hZ6, ?_, ?_⟩
        · rw [Hid]
          have := hc.out
          unfold cntN at *
          rw [List.map_append, List.sum_append_nat, this]
          simp [recN]
          omega
        · have e1 := he.out
          rw [Hid, take_snoc hd.out, List.flatMap_append, ← e1]
          unfold encN
          rw [List.flatMap_append]
          simp [recN]
      case measure => simp [intOf]; omega
    · have hke := hid_mk (show rs.take k = rs from List.take_of_length_le (by have := hlen.out; omega))
      have hkn : Hid (k = n) := (show k = n from by omega)
      have v0 := hR.out.box.cell 0
      have v1 := hR.out.box.cell 1
      have v2 := hR.out.box.cell 2
      change _ = some (Value.int .i64 3) at v0
      change _ = some (Value.int .i64 0) at v1
      change _ = some (Value.string ⟨#[]⟩) at v2
      have zl := hZ.out.lt
      have z0 := hZ.out.cell 0
      have z1 := hZ.out.cell 1
      have z2 := hZ.out.cell 2
      have z3 := hZ.out.cell 3
      have y0 := hZ.out.frozen 0
      have y1 := hZ.out.frozen 1
      have y2 := hZ.out.frozen 2
      have y3 := hZ.out.frozen 3
      change _ = some (Value.int .i64 0) at z0
      change _ = some (Value.int .i64 0) at z1
      change _ = some (Value.string ⟨#[]⟩) at z2
      change _ = some (Value.slice none 0 0) at z3
      go_wp2
      have hS := (((hZ.out.set_ 0 (.int .i64 3)).set_ 1 (.int .i64 0)).set_ 2 (.string ⟨#[]⟩)).set_ 3 (.slice Av k c)
      have e0 := hS.cell 0
      have e1 := hS.cell 1
      have e2 := hS.cell 2
      have e3 := hS.cell 3
      change _ = some (Value.int .i64 3) at e0
      change _ = some (Value.int .i64 0) at e1
      change _ = some (Value.string ⟨#[]⟩) at e2
      change _ = some (Value.slice Av k c) at e3
      refine ends_ret hQ (v := .agg #[.int .i64 3, .int .i64 0, .string ⟨#[]⟩, .slice Av k c]) (by simp [results, Tryd.results59, go_sem, e0, e1, e2, e3]) rfl ?_
      have hL := hR.out.list (by omega)
      rw [hc.out, he.out, hke.out] at hL
      obtain rfl := hkn.out
      refine ⟨⟨Av, c, rfl, VOk.to (by simp [World.setCell]) (fun b hb _ => ?_) (fun b hb _ => ?_) hL⟩, (((hb.setCell (p := ⟨w.heap.size, 0, none⟩) (Nat.le_refl _) _).setCell (p := ⟨w.heap.size, 1, none⟩) (Nat.le_refl _) _).setCell (p := ⟨w.heap.size, 2, none⟩) (Nat.le_refl _) _).setCell (p := ⟨w.heap.size, 3, none⟩) (Nat.le_refl _) _⟩
      · have hbn : b ≠ w.heap.size := by unfold Ups at hb; omega
        rw [Below.heap_setCell _ _ _ _ hbn, Below.heap_setCell _ _ _ _ hbn, Below.heap_setCell _ _ _ _ hbn, Below.heap_setCell _ _ _ _ hbn]
      · unfold Ups at hb ⊢
        omega
end Go.Proofs.YtnaindoeihnmpaaDoor
