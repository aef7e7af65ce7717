/-
  WHAT IS PROVED HERE: what snap.Voters hands back of any state and place. Conditions: the slices are of at most 2^43 elements; the library's table and MaxLen stand.
-/
import Derived.Test.YtncdjmpdbinanaaGreatDoorZGEx
import Derived.Test.YtncdjmpdbinanaaGreatDoorZGEl0
import Derived.Test.YtncdjmpdbinanaaGreatDoorZQrmV
import Derived.Test.YtncdjmpdbinanaaGreatDoorZGStd
import Derived.Defers
namespace Go.Proofs.YtncdjmpdbinanaaGreatDoor
open Go.RowKit

/-- voters and an error are handed back -/
def RetVE (w : World) (R : List Int × Int) (e : Ending) (w' : World) : Prop :=
  ∃ A n c, e = .returned (.tuple #[.slice A n c, .int .i64 R.2]) ∧ Ints w' 0 A n R.1 ∧ n ≤ c ∧ n ≤ 140737488355328 ∧ Below w.heap.size w w'
theorem cell_of_mk {w : World} {p : Addr} {v : Value} (h : w.cell? p = some v) : w.cell? p = some v := h
set_option maxRecDepth 100000 in
set_option maxHeartbeats 1600000 in
theorem SVotersD_any (h : Hd) (R V : Slc) (g0 g1 : Nat) (u : FrameMode) (w : World) {B : Nat} (hm : R.n ≤ 8796093022208) (hv : V.n * 8 ≤ 140737488355328) (hX : Blk w g0 27 #[.int .i64 h.t, .int .i64 h.v, .int .i64 h.l.base, .int .i64 h.l.bt, .slice R.A R.n R.c, .string h.s, .slice V.A V.n V.c])
    (hO : Blk w g1 25 #[.slice none 0 0]) (hr : Recs w B R.A R.n h.l.rs) (hi : Ints w B V.A V.n h.vs) (mm : Int) (hmm : w.cell? ⟨0, 0, none⟩ = some (.int .i64 mm)) :
    CallsD Tryz.prog 123 #[.pointer (some ⟨g0, 0, none⟩), .pointer (some ⟨g1, 0, none⟩)] u w fun e u' w' => u' = u ∧ (e = .returned (.tuple #[]) ∧ ∃ w1 A n c, w' = w1.setCell ⟨g1, 0, none⟩ (.slice A n c) ∧ Below w.heap.size w w1 ∧ Ints w1 0 A n (ofF h.l.base 0 (h.vs, h.l.base) h.l.rs).1 ∧ n ≤ c ∧ n ≤ 140737488355328) := by
  obtain ⟨t, v, ⟨base, bt, rs⟩, s, vs⟩ := h
  obtain ⟨RA, n, Rc⟩ := R
  obtain ⟨VA, m, Vc⟩ := V
  dsimp only at hX hr hi hm hv ⊢
  obtain ⟨hgx, x0, x1, x2, x3, x4, x5, x6⟩ := blk7 hX
  replace hX := hid_mk hX
  obtain ⟨RR, hRR⟩ : ∃ x, ofF base 0 (vs, base) rs = x := ⟨_, rfl⟩
  rw [hRR]
  replace hRR := hid_mk hRR
  go_enter_d Tryz.func123, Tryz.ntmps123
  go_wp2_with fail
  refine (Of_anyC t v ⟨base, bt, rs⟩ RA n Rc s VA m Vc vs _ B B mm hmm hm hv hr hi).mono ?_
  rw [hRR.out]
  rintro e w1 ⟨A2, n2, c2, rfl, hI, hn2, hc2, hb⟩
  have hO1 := hO.keep hb
  have o0 : w1.cell? ⟨g1, 0, none⟩ = some (.slice none 0 0) := hO1.cell 0
  have of0 := hO1.frozen 0
  replace hI := hid_mk hI
  replace hb := hid_mk hb
  clear x0 x1 x2 x3 x4 x5 x6
  go_wp2
  go_end0
  exact ⟨rfl, w1, A2, n2, c2, rfl, hb.out, hI.out, hc2 trivial, hn2⟩
set_option maxRecDepth 100000 in
set_option maxHeartbeats 3200000 in
theorem SVoters_any (h : Hd) (p : Int) (R V : Slc) (w : World) {B : Nat} (hm : R.n ≤ 8796093022208) (hc : R.n ≤ R.c) (hv : V.n * 8 ≤ 140737488355328) (hr : Recs w B R.A R.n h.l.rs) (hi : Ints w B V.A V.n h.vs) (ht : Tab w) (mm : Int) (hmm : w.cell? ⟨0, 0, none⟩ = some (.int .i64 mm)) :
    Calls Tryz.prog 62 #[hdV h R V, .int .i64 p] w fun e w' => RetVE w (votersE h p) e w' := by
  have hmf : ∀ (fn : Fn) (first cap : Array Value) (w : World), (Instr.makeFunc fn first cap).run Tryz.prog w = .ok (.func fn first cap) w := fun _ _ _ _ => rfl
  have hm2 : Hid (∀ w', Below w.heap.size w w' → w'.cell? ⟨0, 0, none⟩ = some (.int .i64 mm)) := fun w' hb => (hb.cell (p := ⟨0, 0, none⟩) (cell_lt hmm)).trans hmm
  clear hmm
  obtain ⟨z, hz⟩ : ∃ z, rightH h = z := ⟨_, rfl⟩
  obtain ⟨RE, hRE⟩ : ∃ x, votersE h p = x := ⟨_, rfl⟩
  have hWR := fun (w : World) (k1 : Recs w B R.A R.n h.l.rs) (k2 : Ints w B V.A V.n h.vs) (k3 : Tab w) => WRight_any h R V w (B := B) (by omega) (by omega) k1 k2 k3
  have hRE0 := hid_mk hRE
  have hj : Hid (z = true → rightJ h.l = true) := fun e => shaped_J (right_shaped (by rw [hz]; exact e))
  rw [hRE]
  unfold votersE at hRE
  rw [hz] at hRE hWR
  clear hRE0
  obtain ⟨t, v, ⟨base, bt, rs⟩, s, vs⟩ := h
  obtain ⟨RA, n, Rc⟩ := R
  obtain ⟨VA, m, Vc⟩ := V
  unfold hdV at hWR ⊢
  dsimp only at hr hi hm hc hv hRE hj hWR ⊢
  have hlen := hr.len
  replace hRE := hid_mk hRE
  replace hz := hid_mk hz
  have hX := hid_mk ((Blk.new w 27 #[.int .i64 t, .int .i64 v, .int .i64 base, .int .i64 bt, .slice RA n Rc, .string s, .slice VA m Vc]).alloc (.cells #[.slice none 0 0] 25))
  have hO : Hid (Blk ((w.alloc (.cells #[.int .i64 t, .int .i64 v, .int .i64 base, .int .i64 bt, .slice RA n Rc, .string s, .slice VA m Vc] 27)).alloc (.cells #[.slice none 0 0] 25)) (w.heap.size + 1) 25 #[.slice none 0 0]) := Blk.new_ (by simp)
  go_enter_defers Tryz.func62, Tryz.ntmps62
  go_wp2_with fail
  refine (hWR _ (hr.to (by go_grown)) (hi.to (by go_grown)) (ht.to (by go_grown))).mono ?_
  rintro e w1 ⟨rfl, hb1⟩
  have q1 := (after (w := w) hb1 (by go_grown)).1
  have z1 := q1.size
  replace hX := hid_mk (hX.out.keep (after hb1 (by go_grown)).1)
  replace hO := hid_mk (hO.out.keep (after hb1 (by go_grown)).1)
  clear hb1
  cases z
  case false =>
    have hre := hid_mk (hRE.out.symm)
    obtain ⟨_, x0, x1, x2, x3, x4, x5, x6⟩ := blk7 hX.out
    have ol := hO.out.lt
    have o0 := hO.out.cell 0
    have of0 := hO.out.frozen 0
    change _ = some (Value.slice none 0 0) at o0
    go_wp2
    have r0 := (hO.out.set_ 0 (.slice none 0 0)).cell 0
    change _ = some (Value.slice none 0 0) at r0
    refine ⟨.tuple #[.slice none 0 0, .int .i64 1], by simp [results, Tryz.results62, go_sem, r0], none, 0, 0, ?_, ?_, Nat.le_refl _, by omega, q1.setCell (p := ⟨w.heap.size + 1, 0, none⟩) (by simp) _⟩
    · rw [hre.out]; rfl
    · rw [hre.out]; exact Reads.none_
  replace hj := hid_mk (hj rfl)
  obtain ⟨_, x0, x1, x2, x3, x4, x5, x6⟩ := blk7 hX.out
  have hra := hr.to q1
  go_wp2_with fail
  clear x0 x1 x2 x3 x4 x5 x6
  obtain ⟨la, hla⟩ : ∃ x, lastJ ⟨base, bt, rs⟩ = x := ⟨_, rfl⟩
  obtain ⟨lt, hlt⟩ : ∃ x, (termJ ⟨base, bt, rs⟩ (lastJ ⟨base, bt, rs⟩)).getD 0 = x := ⟨_, rfl⟩
  refine (Last_any ⟨base, bt, rs⟩ RA n Rc _ (B := B) (by omega) hra).mono ?_
  rw [if_pos hj.out, if_pos hj.out, hlt, hla]
  rintro e w2 ⟨rfl, hb1⟩
  have q2 := (after (w := w) hb1 q1).1
  have z2 := q2.size
  replace hX := hid_mk (hX.out.keep hb1)
  replace hO := hid_mk (hO.out.keep hb1)
  have hln : base + n = la := by rw [← hla, ← hlen]; rfl
  replace hla := hid_mk hla
  clear hb1 hlt hra q1 z1
  obtain ⟨xl, x0, x1, x2, x3, x4, x5, x6⟩ := blk7 hX.out
  have ol := hO.out.lt
  have o0 := hO.out.cell 0
  have of0 := hO.out.frozen 0
  change _ = some (Value.slice none 0 0) at o0
  by_cases p1 : p < base
  case pos =>
    have hre := hid_mk (show RE = ([], 150) from by rw [← hRE.out, if_pos trivial, if_neg (by simp; omega)])
    have p1b : decide (p < base) = true := by simpa using p1
    go_wp2
    have r0 := (hO.out.set_ 0 (.slice none 0 0)).cell 0
    change _ = some (Value.slice none 0 0) at r0
    refine ⟨.tuple #[.slice none 0 0, .int .i64 150], by simp [results, Tryz.results62, go_sem, r0], none, 0, 0, ?_, ?_, Nat.le_refl _, by omega, q2.setCell (p := ⟨w.heap.size + 1, 0, none⟩) (by simp) _⟩
    · rw [hre.out]
    · rw [hre.out]; exact Reads.none_
  by_cases p2 : la < p
  case pos =>
    have hre := hid_mk (show RE = ([], 150) from by rw [← hRE.out, if_pos trivial, if_neg (by rw [hla.out]; simp; omega)])
    have p1b : decide (p < base) = false := by simpa using p1
    have p2b : decide (la < p) = true := by simpa using p2
    go_wp2
    have r0 := (hO.out.set_ 0 (.slice none 0 0)).cell 0
    change _ = some (Value.slice none 0 0) at r0
    refine ⟨.tuple #[.slice none 0 0, .int .i64 150], by simp [results, Tryz.results62, go_sem, r0], none, 0, 0, ?_, ?_, Nat.le_refl _, by omega, q2.setCell (p := ⟨w.heap.size + 1, 0, none⟩) (by simp) _⟩
    · rw [hre.out]
    · rw [hre.out]; exact Reads.none_
  obtain ⟨k, hk⟩ : ∃ k : Nat, p = base + k := ⟨(p - base).toNat, by omega⟩
  subst hk
  have hkn : k ≤ n := by omega
  have p1b : decide (base + (k : Int) < base) = false := by simpa using p1
  have p2b : decide (la < base + (k : Int)) = false := by simpa using p2
  have p3 : base + (k : Int) - base = k := by omega
  replace hln := hid_mk hln
  have xf4 := hX.out.frozen 4
  have hre := hid_mk (show RE = (votersAt ⟨t, v, ⟨base, bt, rs⟩, s, vs⟩ (base + k), 0) from by rw [← hRE.out, if_pos trivial, if_pos (by rw [hla.out]; have := hln.out; simp; omega)])
  go_wp2
  obtain ⟨W, hW⟩ : ∃ x, (w2.setCell ⟨w.heap.size, 4, none⟩ (.slice RA k Rc)).setCell ⟨w.heap.size + 1, 0, none⟩ (.slice none 0 0) = x := ⟨_, rfl⟩
  have q3 : Below w.heap.size w W := by rw [← hW]; exact (q2.setCell (p := ⟨w.heap.size, 4, none⟩) (Nat.le_refl _) _).setCell (p := ⟨w.heap.size + 1, 0, none⟩) (by dsimp only; omega) _
  have hX3 : Blk W w.heap.size 27 #[.int .i64 t, .int .i64 v, .int .i64 base, .int .i64 bt, .slice RA k Rc, .string s, .slice VA m Vc] := by rw [← hW]; exact (hX.out.set_ 4 (.slice RA k Rc)).far (p := ⟨w.heap.size + 1, 0, none⟩) (by dsimp only; omega) _
  have hO3 : Blk W (w.heap.size + 1) 25 #[.slice none 0 0] := by rw [← hW]; exact (hO.out.far (p := ⟨w.heap.size, 4, none⟩) (by dsimp only; omega) (.slice RA k Rc)).set_ 0 _
  rw [hW]
  clear hW x0 x1 x2 x3 x4 x5 x6 xf4 o0 of0
  refine leaves_cons (f := 123) (args := #[.pointer (some ⟨w.heap.size, 0, none⟩), .pointer (some ⟨w.heap.size + 1, 0, none⟩)]) (by simp) (by simp [go_sem]) ?_
  refine (SVotersD_any ⟨t, v, ⟨base, bt, rs.take k⟩, s, vs⟩ ⟨RA, k, Rc⟩ ⟨VA, m, Vc⟩ w.heap.size (w.heap.size + 1) _ W (B := B) (by dsimp only; omega) (by dsimp only; omega) hX3 hO3 ((hr.to q3).take hkn) (hi.to q3) mm (hm2.out _ q3)).mono ?_
  rintro e u' w' ⟨rfl, rfl, w4, A, n4, c4, rfl, hb4, hI4, hc4, hn4⟩
  have hO4 := hO3.keep hb4
  have r0 := (hO4.set_ 0 (.slice A n4 c4)).cell 0
  change _ = some (Value.slice A n4 c4) at r0
  refine ⟨.tuple #[.slice A n4 c4, .int .i64 0], by simp [results, Tryz.results62, go_sem, r0], A, n4, c4, ?_, ?_, hc4, hn4, ((q3.trans (hb4.mono q3.size)).setCell (p := ⟨w.heap.size + 1, 0, none⟩) (by simp) _)⟩
  · rw [hre.out]
  · rw [hre.out]
    unfold votersAt
    rw [show (base + (k : Int) - base).toNat = k by omega]
    exact Reads.far hI4 hO4 (Nat.zero_le _) (by decide) 0 _
end Go.Proofs.YtncdjmpdbinanaaGreatDoor
