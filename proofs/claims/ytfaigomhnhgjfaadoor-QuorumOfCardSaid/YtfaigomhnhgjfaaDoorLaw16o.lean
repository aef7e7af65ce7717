/-
  WHAT IS PROVED HERE: the walk of the law QuorumOf: it returns true and writes nothing that was there. Condition: the variable internal/bytealg.MaxLen holds a number.
-/
import Derived.Test.YtfaigomhnhgjfaaDoorQuorumV
namespace Go.Proofs.YtfaigomhnhgjfaaDoor
open Go.RowKit

theorem blk7all {w : World} {g : Nat} {t : TypeId} {a b c d e f k : Value} (h : Blk w g t #[a, b, c, d, e, f, k]) :
    g < w.heap.size ∧ w.cell? ⟨g, 0, none⟩ = some a ∧ w.cell? ⟨g, 1, none⟩ = some b ∧ w.cell? ⟨g, 2, none⟩ = some c ∧ w.cell? ⟨g, 3, none⟩ = some d ∧ w.cell? ⟨g, 4, none⟩ = some e ∧ w.cell? ⟨g, 5, none⟩ = some f ∧ w.cell? ⟨g, 6, none⟩ = some k := ⟨h.lt, h.cell 0, h.cell 1, h.cell 2, h.cell 3, h.cell 4, h.cell 5, h.cell 6⟩
set_option maxHeartbeats 1600000 in
theorem LawOf_any (t v : Int) (l : Lg) (A : Option Addr) (n cap : Nat) (s : ByteArray) (A1 : Option Addr) (n1 cap1 : Nat) (zs : List Int) (w : World) (m : Int) (hm : w.cell? ⟨0, 0, none⟩ = some (.int .i64 m))
    (hn : n ≤ 8796093022208) (hn1 : n1 * 8 ≤ 140737488355328) (h : Recs w w.heap.size A n l.rs) (hz : Ints w w.heap.size A1 n1 zs) :
    Calls Tryd.prog 3 #[hardV t v l A n cap s A1 n1 cap1] w fun e w' => e = .returned (.bool true) ∧ Below w.heap.size w w' := by
  have hb1 : Below w.heap.size w (w.alloc (.cells #[.int .i64 t, .int .i64 v, .int .i64 l.base, .int .i64 l.bt, .slice A n cap, .string s, .slice A1 n1 cap1] 27)) := (Below.refl _ w).alloc (Nat.le_refl _) _
  have hX := Blk.new w 27 #[.int .i64 t, .int .i64 v, .int .i64 l.base, .int .i64 l.bt, .slice A n cap, .string s, .slice A1 n1 cap1]
  have hm2 : Hid (∀ w', Below w.heap.size w w' → w'.cell? ⟨0, 0, none⟩ = some (.int .i64 m)) := fun w' hb => (hb.cell (p := ⟨0, 0, none⟩) (cell_lt hm)).trans hm
  clear hm
  obtain ⟨x0, y0, y1, y2, y3, y4, y5, y6⟩ := blk7all hX
  by_cases hbig : 300 < n
  · unfold hardV
    refine calls_of_wpQ Tryd.func3 rfl ?_
    intro Q hQ
    simp only [Tryd.ntmps3, List.size_toArray, List.length_cons, List.length_nil, Nat.reduceAdd, Nat.reduceSub, Array.replicate_succ, Array.replicate_zero, List.push_toArray, List.append_toArray, List.nil_append, List.cons_append]
    go_wp2
    refine ends_ret hQ (results_tmp rfl _ _ _) rfl ?_
    exact ⟨rfl, hb1⟩
  replace hb1 := hid_mk hb1
  replace hX := hid_mk hX
  obtain ⟨R, hR⟩ : ∃ R, ofF l.base 0 (zs, l.base) l.rs = R := ⟨_, rfl⟩
  replace hR := hid_mk hR
  unfold hardV
  refine calls_of_wpQ Tryd.func3 rfl ?_
  intro Q hQ
  simp only [Tryd.ntmps3, List.size_toArray, List.length_cons, List.length_nil, Nat.reduceAdd, Nat.reduceSub, Array.replicate_succ, Array.replicate_zero, List.push_toArray, List.append_toArray, List.nil_append, List.cons_append]
  go_wp2_with fail
  refine (Of_any t v l A n cap s A1 n1 cap1 zs _ _ _ m (hm2.out _ hb1.out) hn hn1 (h.to hb1.out) (hz.to hb1.out)).mono ?_
  rw [hR.out]
  rintro e w2 ⟨A2, n2, c2, rfl, hI2, hn2, hb2⟩
  have q2 := hid_mk (after (w := w) hb2 hb1.out).1
  have hX2 := hid_mk (hX.out.keep hb2)
  replace hI2 := hid_mk hI2
  clear hb2 x0 y0 y1 y2 y3 y4 y5 y6
  obtain ⟨x0, y0, y1, y2, y3, y4, y5, y6⟩ := blk7all hX2.out
  go_wp2_with fail
  refine (refOf_any t v l A n cap s A1 n1 cap1 zs _ _ _ hn hn1 (h.to q2.out) (hz.to q2.out)).mono ?_
  rw [hR.out]
  rintro e w3 ⟨A3, n3, c3, rfl, hI3, hn3, hb3⟩
  have q3 := hid_mk (after (w := w) hb3 q2.out).1
  replace hI3 := hid_mk hI3
  replace hI2 := hid_mk (hI2.out.to hb3)
  clear hb3 x0 y0 y1 y2 y3 y4 y5 y6
  go_wp2_with fail
  refine (alive_any _).mono ?_
  rintro e w4 ⟨rfl, hb4⟩
  have q4 := hid_mk (after (w := w) hb4 q3.out).1
  replace hI3 := hid_mk (hI3.out.to hb4)
  replace hI2 := hid_mk (hI2.out.to hb4)
  clear hb4
  go_wp2_with fail
  refine (Ints_any A2 n2 c2 R.1 A3 n3 c3 R.1 _ _ _ hn2 hn3 hI2.out hI3.out).mono ?_
  rw [decide_eq_true (rfl : R.1 = R.1)]
  rintro e w5 ⟨rfl, hb5⟩
  have q5 := hid_mk (after (w := w) hb5 q4.out).1
  clear hb5
  go_wp2
  refine ends_ret hQ (results_tmp rfl _ _ _) rfl ?_
  exact ⟨ret_bool (by simp), q5.out⟩
theorem LawOf_walk {w : World} (mm : Int) (hm : w.cell? ⟨0, 0, none⟩ = some (.int .i64 mm)) (x y : Int) (l : Lg) (A : Option Addr) (n cap : Nat) (s : ByteArray) (A' : Option Addr) (n' cap' : Nat) (zs : List Int)
    (h : Recs w w.heap.size A n l.rs) (hl : n ≤ cap) (hc : cap * 32 ≤ 140737488351232) (hz : Ints w w.heap.size A' n' zs) (hl' : n' ≤ cap') (hc' : cap' * 8 ≤ 140737488351232) (_hs : s.size ≤ 140737488351232) :
    Calls Tryd.prog 3 #[hardV x y l A n cap s A' n' cap'] w fun e w' => e = .returned (.bool true) ∧ Below w.heap.size w w' :=
  LawOf_any x y l A n cap s A' n' cap' zs w mm hm (by omega) (by omega) h hz
end Go.Proofs.YtfaigomhnhgjfaaDoor
