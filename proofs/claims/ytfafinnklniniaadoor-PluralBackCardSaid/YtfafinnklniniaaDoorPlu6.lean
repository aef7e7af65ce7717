/-
  WHAT IS PROVED HERE: what the reader's rel does. Condition: the text is of at most 400 bytes.
-/
import Derived.Test.YtfafinnklniniaaDoorPlu5
import Derived.Deep.CutRange
import Derived.Deep.DeepCutAuto
namespace Go.Proofs.YtfafinnklniniaaDoor
open Go.RowKit

theorem gb_own {w a b : World} {g : Nat} {row : Option Nat} (h : w.grownBy a (some g)) (k : a.grownBy b row) (hr : ∀ i, row = some i → w.heap.size ≤ i) : w.grownBy b (some g) :=
  ⟨k.os.trans h.os, k.tape.trans h.tape, k.output.trans h.output, Nat.le_trans h.size k.size, fun i hi hg => (k.block i (Nat.lt_of_lt_of_le hi h.size) (fun e => by have := hr i e.symm; omega)).trans (h.block i hi hg)⟩
theorem gb_alloc {w a : World} {g : Nat} (h : w.grownBy a (some g)) (o : Obj) : w.grownBy (a.alloc o) (some g) := gb_trans h (World.grownBy_alloc a o _)
theorem Rdr.grown {w w' : World} {g : Nat} {s : ByteArray} {st : St} {row : Option Nat} (h : Rdr w g s st) (hb : w.grownBy w' row) (hg : some g ≠ row) : Rdr w' g s st := Blk.grown h hb hg
theorem blk3r {w : World} {g : Nat} {t : TypeId} {a b c : Value} (h : Blk w g t #[a, b, c]) :
    g < w.heap.size ∧ w.cell? ⟨g, 0, none⟩ = some a ∧ w.cell? ⟨g, 1, none⟩ = some b ∧ w.cell? ⟨g, 2, none⟩ = some c ∧ w.frozen? ⟨g, 0, none⟩ = false ∧ w.frozen? ⟨g, 1, none⟩ = false ∧ w.frozen? ⟨g, 2, none⟩ = false := ⟨h.lt, h.cell 0, h.cell 1, h.cell 2, h.frozen 0, h.frozen 1, h.frozen 2⟩
theorem spanJ : (Tryd.prog.info? 45).map (fun i => (i.zero, i.size, i.bytes)) = some (some (.agg #[.int .i64 0, .int .i64 0]), 2, 16) := by kernel_rfl
theorem info_partsK {P : Program} {t : TypeId} {z : Value} {k b : Nat} (h : (P.info? t).map (fun i => (i.zero, i.size, i.bytes)) = some (some z, k, b)) : ∃ i, P.info? t = some i ∧ i.zero = some z ∧ i.size = k ∧ i.bytes = b := by
  cases hi : P.info? t with
  | none => rw [hi] at h; simp at h
  | some i => rw [hi] at h; simp at h; exact ⟨i, rfl, h.1, h.2.1, h.2.2⟩
theorem span_one (l : List (Int × Int)) : ∀ u ∈ l.flatMap spanC, u.oneCell' = true := by
  intro u hu
  obtain ⟨s, _, hs⟩ := List.mem_flatMap.1 hu
  simp only [spanC, List.mem_cons, List.mem_nil_iff, or_false] at hs
  rcases hs with rfl | rfl <;> rfl
/-- what rel hands back -/
def RetRel (w : World) (g : Nat) (s : ByteArray) (R : Raw × St) (e : Ending) (w' : World) : Prop :=
  ∃ A n c, e = .returned (.agg #[.int .i64 (cMod R.1.mod), .bool R.1.not, .slice A n c]) ∧ Spans w' 0 A n (R.1.spans.map cSpan) ∧ n ≤ 401 ∧ w.grownBy w' (some g) ∧ Rdr w' g s R.2
theorem spansF_one (sl : List UInt8) (f : Nat) (st : St) : spansF sl (f + 1) st = if isS sl 44 (oneSpan sl st).2 then ((oneSpan sl st).1 :: (spansF sl f ⟨(oneSpan sl st).2.at_ + 1, 0⟩).1, (spansF sl f ⟨(oneSpan sl st).2.at_ + 1, 0⟩).2) else ([(oneSpan sl st).1], (oneSpan sl st).2) := rfl
/-- behind the head: the state of the walk at the loop -/
def AtLoop (w wr : World) (g : Nat) (s : ByteArray) (md : Int) (nt : Bool) (v : Value) (sps : List (Int × Int)) (st : St) : Prop :=
  Blk wr (w.heap.size + 1) 37 #[.int .i64 md, .bool nt, v] ∧ Rdr wr g s st ∧ w.grownBy wr (some g) ∧ wr.ownsRow (w.heap.size + 2) 45 2 v sps.length (sps.flatMap spanC) ∧ Blk wr w.heap.size 37 #[.int .i64 0, .bool false, .slice none 0 0]
section
variable {w wr w' : World} {g : Nat} {s : ByteArray} {md : Int} {nt : Bool} {v : Value} {sps : List (Int × Int)} {st st' : St}
theorem AtLoop.call (h : AtLoop w wr g s md nt v sps st) (hg : g < w.heap.size) (hb : wr.grownBy w' (some g)) (hr : Rdr w' g s st') : AtLoop w w' g s md nt v sps st' := by
  obtain ⟨h1, h2, h3, h4, h5⟩ := h
  refine ⟨h1.grown hb (by simp; omega), hr, gb_trans h3 hb, World.ownsRow.kept h4 hb (.inr (fun e => ?_)), h5.grown hb (by simp; omega)⟩
  have := (World.ownsRow.lt h4 g e).1
  omega
theorem AtLoop.quiet (h : AtLoop w wr g s md nt v sps st) (hg : g < w.heap.size) (hb : Below wr.heap.size wr w') : AtLoop w w' g s md nt v sps st := h.call hg (gb_of hb) (Rdr.keep h.2.1 hb)
theorem AtLoop.blk_new {wa : World} {cs : Array Value} (h : AtLoop w wr g s md nt v sps st) (hga : (wr.alloc (.cells cs 45)).grownBy wa v.ownBlock) : Blk wa (w.heap.size + 1) 37 #[.int .i64 md, .bool nt, v] := by
  obtain ⟨h1, h2, h3, h4, h5⟩ := h
  refine (h1.alloc (.cells cs 45)).grown hga (fun e => ?_)
  have := (World.ownsRow.lt h4 _ e.symm).1
  omega
theorem AtLoop.append {wa : World} {A : Option Addr} {k c : Nat} {lo hi : Int} {cs : Array Value} (h : AtLoop w wr g s md nt v sps st) (hg : g < w.heap.size) (hga : (wr.alloc (.cells cs 45)).grownBy wa v.ownBlock)
    (_hat : (Value.slice A k c).ownBlock = v.ownBlock ∨ (Value.slice A k c).ownBlock = some (wr.alloc (.cells cs 45)).heap.size)
    (hown : wa.ownsRow (w.heap.size + 2) 45 2 (.slice A k c) (sps.length + 1) (sps.flatMap spanC ++ [.int .i64 lo, .int .i64 hi])) :
    AtLoop w (wa.setCell ⟨w.heap.size + 1, 2, none⟩ (.slice A k c)) g s md nt (.slice A k c) (sps ++ [(lo, hi)]) st := by
  have hX := h.blk_new hga
  obtain ⟨h1, h2, h3, h4, h5⟩ := h
  have hlt := World.ownsRow.lt h4
  have hnew := World.ownsRow.lt hown
  have gs := gb_set wa (w.heap.size + 1) 2 (.slice A k c)
  have hr : Rdr wa g s st := (Blk.alloc h2 _ : Blk (wr.alloc (.cells cs 45)) g 50 _).grown hga (fun e => by have := (hlt _ e.symm).1; omega)
  have h5' : Blk wa w.heap.size 37 #[.int .i64 0, .bool false, .slice none 0 0] := (h5.alloc (.cells cs 45)).grown hga (fun e => by have := (hlt _ e.symm).1; omega)
  have h3' : w.grownBy wa (some g) := gb_own (gb_alloc h3 _) hga (fun i e => by have := (hlt i e).1; omega)
  refine ⟨by simpa using hX.set_ 2 (.slice A k c), hr.grown gs (by simp; omega), gb_own h3' gs (fun i e => by cases e; omega), ?_, h5'.grown gs (by simp)⟩
  have hk := World.ownsRow.kept hown gs (.inr (fun e => by have := (hnew _ e).1; omega))
  simpa [List.flatMap_append, spanC] using hk
theorem AtLoop.next {md : Int} {a : Nat} (h : AtLoop w wr g s md nt v sps ⟨a, 0⟩) (hg : g < w.heap.size) : AtLoop w (wr.setCell ⟨g, 1, none⟩ (.int .i64 ((a : Int) + 1))) g s md nt v sps ⟨a + 1, 0⟩ :=
  h.call hg (gb_set wr g 1 _) h.2.1.next
end
set_option maxRecDepth 100000 in
set_option maxHeartbeats 6400000 in
theorem rrel_any (s : ByteArray) (st : St) (g : Nat) (w : World) (hs : s.size ≤ 400) (h : Rdr w g s st) :
    Calls Tryd.prog 21 #[.pointer (some ⟨g, 0, none⟩)] w (RetRel w g s (relS s.data.toList st)) := by
  obtain ⟨sl, hsl⟩ : ∃ sl, s.data.toList = sl := ⟨_, rfl⟩
  have hlen : Hid (sl.length = s.size) := by rw [Hid, ← hsl]; simp
  obtain ⟨R, hR⟩ : ∃ R, relS s.data.toList st = R := ⟨_, rfl⟩
  rw [hR]
  rw [hsl] at hR
  have hg : g < w.heap.size := Blk.lt h
  obtain ⟨i0, hi0, hz0, hz1, hz2⟩ := info_partsK spanJ
  have hX0 : Hid (AtLoop w ((w.alloc (.cells #[.int .i64 0, .bool false, .slice none 0 0] 37)).alloc (.cells #[.int .i64 0, .bool false, .slice none 0 0] 37)) g s 0 false (.slice none 0 0) [] st) := by
    have h1 := Blk.new w 37 #[.int .i64 0, .bool false, .slice none 0 0]
    have h2 := Blk.new (w.alloc (.cells #[.int .i64 0, .bool false, .slice none 0 0] 37)) 37 #[.int .i64 0, .bool false, .slice none 0 0]
    rw [World.size_alloc] at h2
    exact ⟨h2, (Blk.alloc (Blk.alloc h _) _ : Blk _ g 50 _), gb_alloc (gb_alloc (gb_refl _ _) _) _, World.ownsRow_nil _ _ _ _, h1.alloc _⟩
  have hRe : Hid (R = (⟨(headS sl st).1, (headS sl st).2.1, (spansF sl (sl.length + 1) (headS sl st).2.2).1⟩, (spansF sl (sl.length + 1) (headS sl st).2.2).2)) := hR.symm
  clear hR
  refine calls_of_wpQ Tryd.func21 rfl ?_
  intro Q hQ
  simp only [Tryd.ntmps21, List.size_toArray, List.length_cons, List.length_nil, Nat.reduceAdd, Nat.reduceSub, Array.replicate_succ, Array.replicate_zero, List.push_toArray, List.append_toArray, List.nil_append, List.cons_append]
  go_wp2_with fail
  refine (must_any s ⟨#[105, 32]⟩ st g _ hs (by decide) (by decide) hX0.out.2.1).mono ?_
  rintro e w1 ⟨rfl, g1, hr1⟩
  have hX1 := hid_mk (hX0.out.call hg g1 hr1)
  clear hX0 g1 hr1
  obtain ⟨st1, e1⟩ : ∃ st1, mustS sl [105, 32] st = st1 := ⟨_, rfl⟩
  have e1' : mustS s.data.toList (⟨#[105, 32]⟩ : ByteArray).data.toList st = st1 := by rw [hsl]; exact e1
  rw [e1'] at hX1
  clear e1'
  go_wp2_with fail
  refine (is_any s st1 37 g _ hs hX1.out.2.1).mono ?_
  rw [hsl]
  rintro e w2 ⟨rfl, hb2⟩
  have hX2 := hid_mk (hX1.out.quiet hg hb2)
  clear hX1 hb2
  go_upto_if 9 with fail
  go_cut [] from 6 (fun wx => ∃ (m : Option Int) (st2 : St), Hid (AtLoop w wx g s (cMod m) false (.slice none 0 0) [] st2) ∧ Hid (modS sl st1 = (m, st2)))
  case first =>
    cases hp : isS sl 37 st1
    · have hm : Hid (modS sl st1 = (none, st1)) := by rw [Hid]; unfold modS; rw [hp]; rfl
      replace hp := hid_mk hp
      go_wp2_with fail
      go_meet
      exact ⟨none, st1, hX2, hm⟩
    · obtain ⟨st3, e3⟩ : ∃ st3, mustS sl [37, 32] st1 = st3 := ⟨_, rfl⟩
      obtain ⟨⟨k, st4⟩, e4⟩ : ∃ q, numS sl st3 = q := ⟨_, rfl⟩
      obtain ⟨st5, e5⟩ : ∃ st5, mustS sl [32] st4 = st5 := ⟨_, rfl⟩
      have hm : Hid (modS sl st1 = (some k, st5)) := by rw [Hid]; unfold modS; rw [hp, if_pos rfl, e3, e4, e5]
      have e3' : mustS s.data.toList (⟨#[37, 32]⟩ : ByteArray).data.toList st1 = st3 := by rw [hsl]; exact e3
      have e5' : mustS s.data.toList (⟨#[32]⟩ : ByteArray).data.toList st4 = st5 := by rw [hsl]; exact e5
      replace hp := hid_mk hp
      replace e3' := hid_mk e3'
      replace e5' := hid_mk e5'
      replace e4 := hid_mk e4
      clear e3 e5
      go_wp2_with fail
      refine (must_any s ⟨#[37, 32]⟩ st1 g _ hs (by decide) (by decide) hX2.out.2.1).mono ?_
      rw [e3'.out]
      rintro e w3 ⟨rfl, g3, hr3⟩
      have hX3 := hid_mk (hX2.out.call hg g3 hr3)
      clear g3 hr3 hX2
      go_wp2_with fail
      refine (number_any s st3 g _ hs hX3.out.2.1).mono ?_
      rw [hsl, e4.out]
      rintro e w4 ⟨rfl, g4, hr4⟩
      have hX4 := hid_mk (hX3.out.call hg g4 hr4)
      clear g4 hr4 hX3
      dsimp only at *
      obtain ⟨y0, y1, y2, y3, z1, z2, z3⟩ := blk3r hX4.out.1
      by_cases hk : k = 0
      · subst hk
        have hX5 : Hid (AtLoop w ((w4.setCell ⟨w.heap.size + 1, 0, none⟩ (.int .i64 0)).setCell ⟨w.heap.size + 1, 0, none⟩ (.int .i64 (-1))) g s (-1) false (.slice none 0 0) [] st4) := by
          obtain ⟨h1, h2, h3, h4, h5⟩ := hX4.out
          have ga := gb_set w4 (w.heap.size + 1) 0 (.int .i64 0)
          have gb := gb_set (w4.setCell ⟨w.heap.size + 1, 0, none⟩ (.int .i64 0)) (w.heap.size + 1) 0 (.int .i64 (-1))
          have gab := gb_trans ga gb
          refine ⟨by simpa using (h1.set_ 0 (.int .i64 0)).set_ 0 (.int .i64 (-1)), h2.grown gab (by simp; omega), gb_own h3 gab (fun i e => by cases e; omega), World.ownsRow_nil _ _ _ _, h5.grown gab (by simp)⟩
        go_wp2_with fail
        refine (must_any s ⟨#[32]⟩ st4 g _ hs (by decide) (by decide) hX5.out.2.1).mono ?_
        rw [e5'.out]
        rintro e w5 ⟨rfl, g5, hr5⟩
        have hX6 := hid_mk (hX5.out.call hg g5 hr5)
        clear g5 hr5
        go_wp2_with fail
        go_meet
        exact ⟨some 0, st5, hX6, hm⟩
      · have hkb : (k == 0) = false := by simpa using hk
        have hX5 : Hid (AtLoop w (w4.setCell ⟨w.heap.size + 1, 0, none⟩ (.int .i64 k)) g s k false (.slice none 0 0) [] st4) := by
          obtain ⟨h1, h2, h3, h4, h5⟩ := hX4.out
          have ga := gb_set w4 (w.heap.size + 1) 0 (.int .i64 k)
          refine ⟨by simpa using h1.set_ 0 (.int .i64 k), h2.grown ga (by simp; omega), gb_own h3 ga (fun i e => by cases e; omega), World.ownsRow_nil _ _ _ _, h5.grown ga (by simp)⟩
        go_wp2_with fail
        refine (must_any s ⟨#[32]⟩ st4 g _ hs (by decide) (by decide) hX5.out.2.1).mono ?_
        rw [e5'.out]
        rintro e w5 ⟨rfl, g5, hr5⟩
        have hX6 := hid_mk (hX5.out.call hg g5 hr5)
        clear g5 hr5
        go_wp2_with fail
        go_meet
        exact ⟨some k, st5, (by rw [show cMod (some k) = k from if_neg hk]; exact hX6), hm⟩
  case rest =>
    obtain ⟨m, st2, hX3, hmod⟩ := hcut
    clear hX2
    go_wp2_with fail
    refine (is_any s st2 33 g _ hs hX3.out.2.1).mono ?_
    rw [hsl]
    rintro e w3 ⟨rfl, hb3⟩
    have hX4 := hid_mk (hX3.out.quiet hg hb3)
    clear hX3 hb3
    go_upto_if 22 with fail
    go_cut [] from 6 (fun wx => ∃ (nt : Bool) (st3 : St), Hid (AtLoop w wx g s (cMod m) nt (.slice none 0 0) [] st3) ∧ Hid (notS sl st2 = (nt, st3)))
    case first =>
      cases hp : isS sl 33 st2
      · have hm : Hid (notS sl st2 = (false, st2)) := by rw [Hid]; unfold notS; rw [hp]; rfl
        replace hp := hid_mk hp
        go_wp2_with fail
        go_meet
        exact ⟨false, st2, hX4, hm⟩
      · obtain ⟨st3, e3⟩ : ∃ st3, mustS sl [33] st2 = st3 := ⟨_, rfl⟩
        have hm : Hid (notS sl st2 = (true, st3)) := by rw [Hid]; unfold notS; rw [hp, if_pos rfl, e3]
        have e3' : mustS s.data.toList (⟨#[33]⟩ : ByteArray).data.toList st2 = st3 := by rw [hsl]; exact e3
        replace hp := hid_mk hp
        replace e3' := hid_mk e3'
        clear e3
        go_wp2_with fail
        refine (must_any s ⟨#[33]⟩ st2 g _ hs (by decide) (by decide) hX4.out.2.1).mono ?_
        rw [e3'.out]
        rintro e w5 ⟨rfl, g5, hr5⟩
        have hX5 := hid_mk (hX4.out.call hg g5 hr5)
        clear g5 hr5 hX4
        obtain ⟨y0, y1, y2, y3, z1, z2, z3⟩ := blk3r hX5.out.1
        have hX6 : Hid (AtLoop w (w5.setCell ⟨w.heap.size + 1, 1, none⟩ (.bool true)) g s (cMod m) true (.slice none 0 0) [] st3) := by
          obtain ⟨h1, h2, h3, h4, h5⟩ := hX5.out
          have ga := gb_set w5 (w.heap.size + 1) 1 (.bool true)
          refine ⟨by simpa using h1.set_ 1 (.bool true), h2.grown ga (by simp; omega), gb_own h3 ga (fun i e => by cases e; omega), World.ownsRow_nil _ _ _ _, h5.grown ga (by simp)⟩
        go_wp2_with fail
        go_meet
        exact ⟨true, st3, hX6, hm⟩
    case rest =>
      clear hX4
      obtain ⟨nt, st3, hX5, hnt⟩ := hcut
      obtain ⟨st4, e4⟩ : ∃ st4, mustS sl [61, 32] st3 = st4 := ⟨_, rfl⟩
      have hh : Hid (headS sl st = (m, nt, st4)) := by rw [Hid]; unfold headS; rw [e1, hmod.out]; dsimp only; rw [hnt.out]; dsimp only; rw [e4]
      have e4' : mustS s.data.toList (⟨#[61, 32]⟩ : ByteArray).data.toList st3 = st4 := by rw [hsl]; exact e4
      go_wp2_with fail
      refine (must_any s ⟨#[61, 32]⟩ st3 g _ hs (by decide) (by decide) hX5.out.2.1).mono ?_
      rw [e4']
      rintro e w6 ⟨rfl, g6, hr6⟩
      have hX6 := hid_mk (hX5.out.call hg g6 hr6)
      clear g6 hr6 hX5 e4 e4' e1 hmod hnt
      obtain ⟨Rl, hRLe⟩ : ∃ Rl, spansF sl (sl.length + 1) st4 = Rl := ⟨_, rfl⟩
      have hRL : Hid (spansF sl (sl.length + 1) (m, nt, st4).2.2 = Rl) := hRLe
      have hR0 : Hid (Rl = ([] ++ (spansF sl (sl.length + 1) st4).1, (spansF sl (sl.length + 1) st4).2)) := by rw [Hid, hRLe]; rfl
      clear hRLe
      go_wp2_with fail
      go_loopw [4, 5] (fun _ _ wr => ∃ (acc : List (Int × Option Int)) (v : Value) (stl : St) (f : Nat), Hid (AtLoop w wr g s (cMod m) nt v (acc.map cSpan) stl) ∧ Hid (Rl = (acc ++ (spansF sl f stl).1, (spansF sl f stl).2)) ∧ sl.length + 1 ≤ f + stl.at_ ∧ 1 ≤ f ∧ (acc.length = 0 ∨ (acc.length ≤ stl.at_ ∧ stl.at_ ≤ 400))) (fun _ _ wr => s.size - (match wr.cell? ⟨g, 1, none⟩ with | some (.int _ a) => a.toNat | _ => 0))
      case atStart => exact ⟨[], _, st4, sl.length + 1, hX6, hR0, by omega, by omega, .inl rfl⟩
      case round =>
        clear hX6 hR0
        obtain ⟨acc, v, stl, f0, hX7, hRl, hf, hf1, hac⟩ := hrel
        obtain ⟨f, rfl⟩ : ∃ f, f0 = f + 1 := ⟨f0 - 1, by omega⟩
        obtain ⟨sps, hsps⟩ : ∃ sps, acc.map cSpan = sps := ⟨_, rfl⟩
        rw [hsps] at hX7
        have hspl : sps.length = acc.length := by rw [← hsps]; simp
        rw [← hspl] at hac
        replace hsps := hid_mk hsps
        replace hspl := hid_mk hspl
        have q20 := hX7.out.2.1.cells_.2.2.1
        have k63 : sps.length + 1 ≤ maxLen := by unfold maxLen; omega
        have kby : (sps.length + 1) * 16 ≤ 140737488355328 := by omega
        obtain ⟨⟨lo, st5⟩, e5⟩ : ∃ q, numS sl stl = q := ⟨_, rfl⟩
        have e5h := hid_mk e5
        go_wp2_with fail
        refine (number_any s stl g _ hs hX7.out.2.1).mono ?_
        rw [hsl, e5h.out]
        rintro e w7 ⟨rfl, g7, hr7⟩
        have hX8 := hid_mk (hX7.out.call hg g7 hr7)
        clear g7 hr7
        dsimp only at *
        go_wp2_with fail
        refine (is_any s st5 46 g _ hs hX8.out.2.1).mono ?_
        rw [hsl]
        cases hdot : isS sl 46 st5
        · have ho : Hid (oneSpan sl stl = ((lo, none), st5)) := by rw [Hid]; unfold oneSpan; rw [e5]; dsimp only; rw [hdot]; rfl
          have hc : Hid (cSpan (lo, none) = (lo, lo)) := rfl
          replace hdot := hid_mk hdot
          clear e5
          rintro e w9 ⟨rfl, hb9⟩
          have hX9 := hid_mk (hX8.out.quiet hg hb9)
          clear hb9 hX8
          obtain ⟨A1, cp1, rfl, hk1, hk2⟩ := own_slice hX9.out.2.2.2.1
          have ha := hX9.out
          have hownA := hX9.out.2.2.2.1.alloc (.cells #[.int .i64 lo, .int .i64 lo] 45)
          have hnew := reads_new w9 #[.int .i64 lo, .int .i64 lo] 45 1 2 0 rfl
          obtain ⟨y0, y1, y2, y3, z1, z2, z3⟩ := blk3r hX9.out.1
          have hbase : w.heap.size + 2 ≤ (w9.alloc (.cells #[.int .i64 lo, .int .i64 lo] 45)).heap.size := by rw [World.size_alloc]; omega
          clear ha
          replace hnew := hid_mk hnew
          replace hownA := hid_mk hownA
          go_wp2_with (at_builtin; refine wpList_append_any _ rfl (.tmp 41) (.tmp 45) 35 rfl (w.heap.size + 2) 45 i0 _ 2 16 Tryd.underlying35 hi0 hz0 hz1 hz2 rfl (by omega) (.slice A1 sps.length cp1) sps.length _ rfl hownA.out 0 (some ⟨w9.heap.size, 0, none⟩) 1 1 [.int .i64 lo, .int .i64 lo] (by simp [Act.eval]) hnew.out (span_one [(lo, lo)]) k63 kby hbase ?_; intro va wa howna hga hat; obtain ⟨A2, cp2, rfl, hk3, hk4⟩ := own_slice howna; have hXa := hX9.out.blk_new hga; have hXb := hid_mk (hX9.out.append hg hga hat howna); obtain ⟨y0, y1, y2, y3, z1, z2, z3⟩ := blk3r hXa; clear hXa)
          refine (is_any s st5 44 g _ hs hXb.out.2.1).mono ?_
          rw [hsl]
          cases hcm : isS sl 44 st5
          · have hfin : Hid (Rl = (acc ++ [(lo, none)], st5)) := by rw [Hid, hRl.out, spansF_one, ho.out, hcm]; rfl
            replace hcm := hid_mk hcm
            rintro e w10 ⟨rfl, hb10⟩
            have hX11 := hid_mk (hXb.out.quiet hg hb10)
            clear hXb hb10 y0 y1 y2 y3 z1 z2 z3
            obtain ⟨y0, y1, y2, y3, z1, z2, z3⟩ := blk3r hX11.out.1
            obtain ⟨a0, a1, a2, a3, b1, b2, b3⟩ := blk3r hX11.out.2.2.2.2
            go_wp2
            have gs : w10.grownBy (((w10.setCell ⟨w.heap.size, 0, none⟩ (.int .i64 (cMod m))).setCell ⟨w.heap.size, 1, none⟩ (.bool nt)).setCell ⟨w.heap.size, 2, none⟩ (.slice A2 (sps.length + 1) cp2)) (some w.heap.size) := gb_trans (gb_trans (gb_set _ _ _ _) (gb_set _ _ _ _)) (gb_set _ _ _ _)
            obtain ⟨p1, p2, p3, p4, p5⟩ := hX11.out
            have p5' := ((p5.set_ 0 (.int .i64 (cMod m))).set_ 1 (.bool nt)).set_ 2 (.slice A2 (sps.length + 1) cp2)
            obtain ⟨a0, a1, a2, a3, b1, b2, b3⟩ := blk3r (show Blk _ w.heap.size 37 #[.int .i64 (cMod m), .bool nt, .slice A2 (sps.length + 1) cp2] by simpa using p5')
            have p4' := World.ownsRow.kept p4 gs (.inr (fun e => by have := (World.ownsRow.lt p4 _ e).1; omega))
            refine ends_ret hQ (v := .agg #[.int .i64 (cMod m), .bool nt, .slice A2 (sps.length + 1) cp2]) (by simp [results, Tryd.results21, go_sem, a1, a2, a3]) rfl ?_
            refine ⟨A2, sps.length + 1, cp2, by rw [hRe.out, hh.out], ?_, by omega, gb_own p3 gs (fun i e => by cases e; omega), ?_⟩
            · rw [hRe.out]
              show Spans _ 0 A2 _ ((spansF sl (sl.length + 1) (headS sl st).2.2).1.map cSpan)
              rw [hh.out, hRL.out, hfin.out]
              rw [List.length_append, List.length_singleton] at p4'
              have := reads_of_own (B := 0) p4'
              rw [List.map_append, hsps.out, List.map_cons, List.map_nil, hc.out]
              exact this
            · rw [hRe.out]
              show Rdr _ g s (spansF sl (sl.length + 1) (headS sl st).2.2).2
              rw [hh.out, hRL.out, hfin.out]
              exact p2.grown gs (by simp; omega)
          · obtain ⟨hz, hlt⟩ := isS_lt hcm
            have hmn := oneSpan_mono sl stl
            rw [ho.out] at hmn
            obtain ⟨a5, b5⟩ := st5
            dsimp only at hz hlt hmn
            subst hz
            have hfin : Hid (Rl = ((acc ++ [(lo, none)]) ++ (spansF sl f ⟨a5 + 1, 0⟩).1, (spansF sl f ⟨a5 + 1, 0⟩).2)) := by rw [Hid, hRl.out, spansF_one, ho.out, hcm]; simp
            have hls := hlen.out
            replace hcm := hid_mk hcm
            rintro e w10 ⟨rfl, hb10⟩
            have hX11 := hid_mk (hXb.out.quiet hg hb10)
            clear hXb hb10 y0 y1 y2 y3 z1 z2 z3
            obtain ⟨q0, q1, q2, q3, q4, q5⟩ := hX11.out.2.1.cells_
            dsimp only at q2 q3
            have hmz : s.size - (a5 + 1) < s.size - stl.at_ := by omega
            have wa5 : IntKind.i64.wrap ((a5 : Int) + 1) = (a5 : Int) + 1 := IntWalk.i64_in _ (by omega)
            go_wp2
            go_roundw
            case rel => exact ⟨acc ++ [(lo, none)], _, ⟨a5 + 1, 0⟩, f, (by rw [Hid, List.map_append, hsps.out, List.map_cons, List.map_nil, hc.out]; exact hX11.out.next hg), hfin, by dsimp only; omega, by omega, .inr ⟨by have := hspl.out; simp; omega, by dsimp only; omega⟩⟩
            case measure => simp [World.cell?_setCell_same', q2, q20]; exact hmz
        · obtain ⟨st6, e6⟩ : ∃ st6, mustS sl [46, 46] st5 = st6 := ⟨_, rfl⟩
          obtain ⟨⟨hi, st7⟩, e7⟩ : ∃ q, numS sl st6 = q := ⟨_, rfl⟩
          have ho : Hid (oneSpan sl stl = ((lo, some hi), st7)) := by rw [Hid]; unfold oneSpan; rw [e5]; dsimp only; rw [hdot, e6, e7]; rfl
          have e6' : mustS s.data.toList (⟨#[46, 46]⟩ : ByteArray).data.toList st5 = st6 := by rw [hsl]; exact e6
          replace hdot := hid_mk hdot
          replace e6' := hid_mk e6'
          replace e7 := hid_mk e7
          clear e5 e6
          rintro e w11 ⟨rfl, hb11⟩
          have hX10 := hid_mk (hX8.out.quiet hg hb11)
          clear hb11 hX8
          go_wp2_with fail
          refine (must_any s ⟨#[46, 46]⟩ st5 g _ hs (by decide) (by decide) hX10.out.2.1).mono ?_
          rw [e6'.out]
          rintro e w12 ⟨rfl, g12, hr12⟩
          have hX12 := hid_mk (hX10.out.call hg g12 hr12)
          clear g12 hr12 hX10
          go_wp2_with fail
          refine (number_any s st6 g _ hs hX12.out.2.1).mono ?_
          rw [hsl, e7.out]
          rintro e w9 ⟨rfl, g9, hr9⟩
          have hX9 := hid_mk (hX12.out.call hg g9 hr9)
          clear g9 hr9 hX12
          dsimp only at *
          by_cases hle : hi ≤ lo
          · have hc : Hid (cSpan (lo, some hi) = (lo, -1)) := by rw [Hid]; unfold cSpan; dsimp only; rw [if_pos hle]
            obtain ⟨A1, cp1, rfl, hk1, hk2⟩ := own_slice hX9.out.2.2.2.1
            have ha := hX9.out
            have hownA := hX9.out.2.2.2.1.alloc (.cells #[.int .i64 lo, .int .i64 (-1)] 45)
            have hnew := reads_new w9 #[.int .i64 lo, .int .i64 (-1)] 45 1 2 0 rfl
            obtain ⟨y0, y1, y2, y3, z1, z2, z3⟩ := blk3r hX9.out.1
            have hbase : w.heap.size + 2 ≤ (w9.alloc (.cells #[.int .i64 lo, .int .i64 (-1)] 45)).heap.size := by rw [World.size_alloc]; omega
            clear ha
            replace hnew := hid_mk hnew
            replace hownA := hid_mk hownA
            go_wp2_with (at_builtin; refine wpList_append_any _ rfl (.tmp 41) (.tmp 45) 35 rfl (w.heap.size + 2) 45 i0 _ 2 16 Tryd.underlying35 hi0 hz0 hz1 hz2 rfl (by omega) (.slice A1 sps.length cp1) sps.length _ rfl hownA.out 0 (some ⟨w9.heap.size, 0, none⟩) 1 1 [.int .i64 lo, .int .i64 (-1)] (by simp [Act.eval]) hnew.out (span_one [(lo, (-1))]) k63 kby hbase ?_; intro va wa howna hga hat; obtain ⟨A2, cp2, rfl, hk3, hk4⟩ := own_slice howna; have hXa := hX9.out.blk_new hga; have hXb := hid_mk (hX9.out.append hg hga hat howna); obtain ⟨y0, y1, y2, y3, z1, z2, z3⟩ := blk3r hXa; clear hXa)
            refine (is_any s st7 44 g _ hs hXb.out.2.1).mono ?_
            rw [hsl]
            cases hcm : isS sl 44 st7
            · have hfin : Hid (Rl = (acc ++ [(lo, some hi)], st7)) := by rw [Hid, hRl.out, spansF_one, ho.out, hcm]; rfl
              replace hcm := hid_mk hcm
              rintro e w10 ⟨rfl, hb10⟩
              have hX11 := hid_mk (hXb.out.quiet hg hb10)
              clear hXb hb10 y0 y1 y2 y3 z1 z2 z3
              obtain ⟨y0, y1, y2, y3, z1, z2, z3⟩ := blk3r hX11.out.1
              obtain ⟨a0, a1, a2, a3, b1, b2, b3⟩ := blk3r hX11.out.2.2.2.2
              go_wp2
              have gs : w10.grownBy (((w10.setCell ⟨w.heap.size, 0, none⟩ (.int .i64 (cMod m))).setCell ⟨w.heap.size, 1, none⟩ (.bool nt)).setCell ⟨w.heap.size, 2, none⟩ (.slice A2 (sps.length + 1) cp2)) (some w.heap.size) := gb_trans (gb_trans (gb_set _ _ _ _) (gb_set _ _ _ _)) (gb_set _ _ _ _)
              obtain ⟨p1, p2, p3, p4, p5⟩ := hX11.out
              have p5' := ((p5.set_ 0 (.int .i64 (cMod m))).set_ 1 (.bool nt)).set_ 2 (.slice A2 (sps.length + 1) cp2)
              obtain ⟨a0, a1, a2, a3, b1, b2, b3⟩ := blk3r (show Blk _ w.heap.size 37 #[.int .i64 (cMod m), .bool nt, .slice A2 (sps.length + 1) cp2] by simpa using p5')
              have p4' := World.ownsRow.kept p4 gs (.inr (fun e => by have := (World.ownsRow.lt p4 _ e).1; omega))
              refine ends_ret hQ (v := .agg #[.int .i64 (cMod m), .bool nt, .slice A2 (sps.length + 1) cp2]) (by simp [results, Tryd.results21, go_sem, a1, a2, a3]) rfl ?_
              refine ⟨A2, sps.length + 1, cp2, by rw [hRe.out, hh.out], ?_, by omega, gb_own p3 gs (fun i e => by cases e; omega), ?_⟩
              · rw [hRe.out]
                show Spans _ 0 A2 _ ((spansF sl (sl.length + 1) (headS sl st).2.2).1.map cSpan)
                rw [hh.out, hRL.out, hfin.out]
                rw [List.length_append, List.length_singleton] at p4'
                have := reads_of_own (B := 0) p4'
                rw [List.map_append, hsps.out, List.map_cons, List.map_nil, hc.out]
                exact this
              · rw [hRe.out]
                show Rdr _ g s (spansF sl (sl.length + 1) (headS sl st).2.2).2
                rw [hh.out, hRL.out, hfin.out]
                exact p2.grown gs (by simp; omega)
            · obtain ⟨hz, hlt⟩ := isS_lt hcm
              have hmn := oneSpan_mono sl stl
              rw [ho.out] at hmn
              obtain ⟨a5, b5⟩ := st7
              dsimp only at hz hlt hmn
              subst hz
              have hfin : Hid (Rl = ((acc ++ [(lo, some hi)]) ++ (spansF sl f ⟨a5 + 1, 0⟩).1, (spansF sl f ⟨a5 + 1, 0⟩).2)) := by rw [Hid, hRl.out, spansF_one, ho.out, hcm]; simp
              have hls := hlen.out
              replace hcm := hid_mk hcm
              rintro e w10 ⟨rfl, hb10⟩
              have hX11 := hid_mk (hXb.out.quiet hg hb10)
              clear hXb hb10 y0 y1 y2 y3 z1 z2 z3
              obtain ⟨q0, q1, q2, q3, q4, q5⟩ := hX11.out.2.1.cells_
              dsimp only at q2 q3
              have hmz : s.size - (a5 + 1) < s.size - stl.at_ := by omega
              have wa5 : IntKind.i64.wrap ((a5 : Int) + 1) = (a5 : Int) + 1 := IntWalk.i64_in _ (by omega)
              go_wp2
              go_roundw
              case rel => exact ⟨acc ++ [(lo, some hi)], _, ⟨a5 + 1, 0⟩, f, (by rw [Hid, List.map_append, hsps.out, List.map_cons, List.map_nil, hc.out]; exact hX11.out.next hg), hfin, by dsimp only; omega, by omega, .inr ⟨by have := hspl.out; simp; omega, by dsimp only; omega⟩⟩
              case measure => simp [World.cell?_setCell_same', q2, q20]; exact hmz
          · have hc : Hid (cSpan (lo, some hi) = (lo, hi)) := by rw [Hid]; unfold cSpan; dsimp only; rw [if_neg hle]
            obtain ⟨A1, cp1, rfl, hk1, hk2⟩ := own_slice hX9.out.2.2.2.1
            have ha := hX9.out
            have hownA := hX9.out.2.2.2.1.alloc (.cells #[.int .i64 lo, .int .i64 hi] 45)
            have hnew := reads_new w9 #[.int .i64 lo, .int .i64 hi] 45 1 2 0 rfl
            obtain ⟨y0, y1, y2, y3, z1, z2, z3⟩ := blk3r hX9.out.1
            have hbase : w.heap.size + 2 ≤ (w9.alloc (.cells #[.int .i64 lo, .int .i64 hi] 45)).heap.size := by rw [World.size_alloc]; omega
            clear ha
            replace hnew := hid_mk hnew
            replace hownA := hid_mk hownA
            go_wp2_with (at_builtin; refine wpList_append_any _ rfl (.tmp 41) (.tmp 45) 35 rfl (w.heap.size + 2) 45 i0 _ 2 16 Tryd.underlying35 hi0 hz0 hz1 hz2 rfl (by omega) (.slice A1 sps.length cp1) sps.length _ rfl hownA.out 0 (some ⟨w9.heap.size, 0, none⟩) 1 1 [.int .i64 lo, .int .i64 hi] (by simp [Act.eval]) hnew.out (span_one [(lo, hi)]) k63 kby hbase ?_; intro va wa howna hga hat; obtain ⟨A2, cp2, rfl, hk3, hk4⟩ := own_slice howna; have hXa := hX9.out.blk_new hga; have hXb := hid_mk (hX9.out.append hg hga hat howna); obtain ⟨y0, y1, y2, y3, z1, z2, z3⟩ := blk3r hXa; clear hXa)
            refine (is_any s st7 44 g _ hs hXb.out.2.1).mono ?_
            rw [hsl]
            cases hcm : isS sl 44 st7
            · have hfin : Hid (Rl = (acc ++ [(lo, some hi)], st7)) := by rw [Hid, hRl.out, spansF_one, ho.out, hcm]; rfl
              replace hcm := hid_mk hcm
              rintro e w10 ⟨rfl, hb10⟩
              have hX11 := hid_mk (hXb.out.quiet hg hb10)
              clear hXb hb10 y0 y1 y2 y3 z1 z2 z3
              obtain ⟨y0, y1, y2, y3, z1, z2, z3⟩ := blk3r hX11.out.1
              obtain ⟨a0, a1, a2, a3, b1, b2, b3⟩ := blk3r hX11.out.2.2.2.2
              go_wp2
              have gs : w10.grownBy (((w10.setCell ⟨w.heap.size, 0, none⟩ (.int .i64 (cMod m))).setCell ⟨w.heap.size, 1, none⟩ (.bool nt)).setCell ⟨w.heap.size, 2, none⟩ (.slice A2 (sps.length + 1) cp2)) (some w.heap.size) := gb_trans (gb_trans (gb_set _ _ _ _) (gb_set _ _ _ _)) (gb_set _ _ _ _)
              obtain ⟨p1, p2, p3, p4, p5⟩ := hX11.out
              have p5' := ((p5.set_ 0 (.int .i64 (cMod m))).set_ 1 (.bool nt)).set_ 2 (.slice A2 (sps.length + 1) cp2)
              obtain ⟨a0, a1, a2, a3, b1, b2, b3⟩ := blk3r (show Blk _ w.heap.size 37 #[.int .i64 (cMod m), .bool nt, .slice A2 (sps.length + 1) cp2] by simpa using p5')
              have p4' := World.ownsRow.kept p4 gs (.inr (fun e => by have := (World.ownsRow.lt p4 _ e).1; omega))
              refine ends_ret hQ (v := .agg #[.int .i64 (cMod m), .bool nt, .slice A2 (sps.length + 1) cp2]) (by simp [results, Tryd.results21, go_sem, a1, a2, a3]) rfl ?_
              refine ⟨A2, sps.length + 1, cp2, by rw [hRe.out, hh.out], ?_, by omega, gb_own p3 gs (fun i e => by cases e; omega), ?_⟩
              · rw [hRe.out]
                show Spans _ 0 A2 _ ((spansF sl (sl.length + 1) (headS sl st).2.2).1.map cSpan)
                rw [hh.out, hRL.out, hfin.out]
                rw [List.length_append, List.length_singleton] at p4'
                have := reads_of_own (B := 0) p4'
                rw [List.map_append, hsps.out, List.map_cons, List.map_nil, hc.out]
                exact this
              · rw [hRe.out]
                show Rdr _ g s (spansF sl (sl.length + 1) (headS sl st).2.2).2
                rw [hh.out, hRL.out, hfin.out]
                exact p2.grown gs (by simp; omega)
            · obtain ⟨hz, hlt⟩ := isS_lt hcm
              have hmn := oneSpan_mono sl stl
              rw [ho.out] at hmn
              obtain ⟨a5, b5⟩ := st7
              dsimp only at hz hlt hmn
              subst hz
              have hfin : Hid (Rl = ((acc ++ [(lo, some hi)]) ++ (spansF sl f ⟨a5 + 1, 0⟩).1, (spansF sl f ⟨a5 + 1, 0⟩).2)) := by rw [Hid, hRl.out, spansF_one, ho.out, hcm]; simp
              have hls := hlen.out
              replace hcm := hid_mk hcm
              rintro e w10 ⟨rfl, hb10⟩
              have hX11 := hid_mk (hXb.out.quiet hg hb10)
              clear hXb hb10 y0 y1 y2 y3 z1 z2 z3
              obtain ⟨q0, q1, q2, q3, q4, q5⟩ := hX11.out.2.1.cells_
              dsimp only at q2 q3
              have hmz : s.size - (a5 + 1) < s.size - stl.at_ := by omega
              have wa5 : IntKind.i64.wrap ((a5 : Int) + 1) = (a5 : Int) + 1 := IntWalk.i64_in _ (by omega)
              go_wp2
              go_roundw
              case rel => exact ⟨acc ++ [(lo, some hi)], _, ⟨a5 + 1, 0⟩, f, (by rw [Hid, List.map_append, hsps.out, List.map_cons, List.map_nil, hc.out]; exact hX11.out.next hg), hfin, by dsimp only; omega, by omega, .inr ⟨by have := hspl.out; simp; omega, by dsimp only; omega⟩⟩
              case measure => simp [World.cell?_setCell_same', q2, q20]; exact hmz
end Go.Proofs.YtfafinnklniniaaDoor
