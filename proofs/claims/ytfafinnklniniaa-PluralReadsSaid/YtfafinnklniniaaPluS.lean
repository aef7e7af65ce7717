/-
  WHAT IS PROVED HERE: what the reference's rel does. Condition: the text is of at most 400 bytes.
-/
import Derived.Test.YtfafinnklniniaaPluR
import Derived.Test.YtfafinnklniniaaPlu6
namespace Go.Proofs.Ytfafinnklniniaa
open Go.RowKit

def rMod : Option Int → Int
  | none => 0
  | some m => m
def rSpan (s : Int × Option Int) : Int × Int := (s.1, match s.2 with
  | none => s.1
  | some h => h)
def mayMod : Option Int → Bool
  | none => true
  | some m => decide (0 < m)
def maySpan (s : Int × Option Int) : Bool := match s.2 with
  | none => true
  | some h => decide (s.1 < h)
def mayR (r : Raw) : Bool := mayMod r.mod && r.spans.all maySpan
def rRel (r : Raw) : Rl := ⟨rMod r.mod, r.not, r.spans.map rSpan⟩
theorem RP.grown {w w' : World} {g : Nat} {s : ByteArray} {st : St} {may : Bool} {row : Option Nat} (h : RP w g s st may) (hb : w.grownBy w' row) (hg : some g ≠ row) : RP w' g s st may := Blk.grown h hb hg
theorem must_is {sl : List UInt8} {c : UInt8} {st : St} (h : isS sl c st = true) : mustS sl [c] st = ⟨st.at_ + 1, 0⟩ := by
  obtain ⟨a, b⟩ := st
  unfold isS at h
  simp only [Bool.and_eq_true, decide_eq_true_eq, beq_iff_eq] at h
  obtain ⟨h1, h2⟩ := h
  subst h1
  rw [mustS, if_neg (by simp), if_pos h2, mustS]
/-- what rel hands back -/
def RetRelR (w : World) (g : Nat) (s : ByteArray) (may : Bool) (R : Raw × St) (e : Ending) (w' : World) : Prop :=
  ∃ A n c, e = .returned (.agg #[.int .i64 (rMod R.1.mod), .bool R.1.not, .slice A n c]) ∧ Spans w' 0 A n (R.1.spans.map rSpan) ∧ n ≤ 401 ∧ w.grownBy w' (some g) ∧ RP w' g s R.2 (may && mayR R.1)
def AtR (w wr : World) (g : Nat) (s : ByteArray) (may : Bool) (md : Int) (nt : Bool) (v : Value) (sps : List (Int × Int)) (st : St) : Prop :=
  Blk wr (w.heap.size + 1) 42 #[.int .i64 md, .bool nt, v] ∧ RP wr g s st may ∧ w.grownBy wr (some g) ∧ wr.ownsRow (w.heap.size + 2) 52 2 v sps.length (sps.flatMap spanC) ∧ Blk wr w.heap.size 42 #[.int .i64 0, .bool false, .slice none 0 0]
section
variable {w wr w' : World} {g : Nat} {s : ByteArray} {may may' : Bool} {md : Int} {nt : Bool} {v : Value} {sps : List (Int × Int)} {st st' : St}
theorem AtR.call (h : AtR w wr g s may md nt v sps st) (hg : g < w.heap.size) (hb : wr.grownBy w' (some g)) (hr : RP w' g s st' may') : AtR w w' g s may' md nt v sps st' := by
  obtain ⟨h1, h2, h3, h4, h5⟩ := h
  refine ⟨h1.grown hb (by simp; omega), hr, gb_trans h3 hb, World.ownsRow.kept h4 hb (.inr (fun e => ?_)), h5.grown hb (by simp; omega)⟩
  have := (World.ownsRow.lt h4 g e).1
  omega
theorem AtR.quiet (h : AtR w wr g s may md nt v sps st) (hg : g < w.heap.size) (hb : Below wr.heap.size wr w') : AtR w w' g s may md nt v sps st := h.call hg (gb_of hb) (RP.keep h.2.1 hb)
theorem AtR.far (h : AtR w wr g s may md nt v sps st) (hg : g < w.heap.size) {k : Nat} (hk : w.heap.size + 2 ≤ k) (hne : v.ownBlock ≠ some k) (i : Nat) (u : Value) : AtR w (wr.setCell ⟨k, i, none⟩ u) g s may md nt v sps st := by
  obtain ⟨h1, h2, h3, h4, h5⟩ := h
  have gs := gb_set wr k i u
  exact ⟨h1.grown gs (by simp; omega), h2.grown gs (by simp; omega), gb_own h3 gs (fun j e => by cases e; omega), World.ownsRow.kept h4 gs (.inr hne), h5.grown gs (by simp; omega)⟩
theorem AtR.may_ (h : AtR w wr g s may md nt v sps st) (hg : g < w.heap.size) (b : Bool) : AtR w (wr.setCell ⟨g, 3, none⟩ (.bool b)) g s b md nt v sps st := h.call hg (gb_set wr g 3 _) (h.2.1.may_ b)
theorem AtR.next {a : Nat} (h : AtR w wr g s may md nt v sps ⟨a, 0⟩) (hg : g < w.heap.size) : AtR w (wr.setCell ⟨g, 1, none⟩ (.int .i64 ((a : Int) + 1))) g s may md nt v sps ⟨a + 1, 0⟩ := h.call hg (gb_set wr g 1 _) h.2.1.next
theorem AtR.md_ (h : AtR w wr g s may md nt v sps st) (hg : g < w.heap.size) (m : Int) : AtR w (wr.setCell ⟨w.heap.size + 1, 0, none⟩ (.int .i64 m)) g s may m nt v sps st := by
  obtain ⟨h1, h2, h3, h4, h5⟩ := h
  have ga := gb_set wr (w.heap.size + 1) 0 (.int .i64 m)
  refine ⟨by simpa using h1.set_ 0 (.int .i64 m), h2.grown ga (by simp; omega), gb_own h3 ga (fun i e => by cases e; omega), World.ownsRow.kept h4 ga (.inr (fun e => ?_)), h5.grown ga (by simp)⟩
  have := (World.ownsRow.lt h4 _ e).1
  omega
theorem AtR.nt_ (h : AtR w wr g s may md nt v sps st) (hg : g < w.heap.size) (b : Bool) : AtR w (wr.setCell ⟨w.heap.size + 1, 1, none⟩ (.bool b)) g s may md b v sps st := by
  obtain ⟨h1, h2, h3, h4, h5⟩ := h
  have ga := gb_set wr (w.heap.size + 1) 1 (.bool b)
  refine ⟨by simpa using h1.set_ 1 (.bool b), h2.grown ga (by simp; omega), gb_own h3 ga (fun i e => by cases e; omega), World.ownsRow.kept h4 ga (.inr (fun e => ?_)), h5.grown ga (by simp)⟩
  have := (World.ownsRow.lt h4 _ e).1
  omega
theorem AtR.alloc (h : AtR w wr g s may md nt v sps st) (o : Obj) : AtR w (wr.alloc o) g s may md nt v sps st := by
  obtain ⟨h1, h2, h3, h4, h5⟩ := h
  exact ⟨h1.alloc o, (Blk.alloc h2 o : Blk _ g 49 _), gb_alloc h3 o, h4.alloc o, h5.alloc o⟩
theorem AtR.own_lt (h : AtR w wr g s may md nt v sps st) {k : Nat} (hk : wr.heap.size ≤ k) : v.ownBlock ≠ some k := fun e => by have := (World.ownsRow.lt h.2.2.2.1 _ e).2; omega
theorem AtR.blk_new {wa : World} {cs : Array Value} (h : AtR w wr g s may md nt v sps st) (hga : (wr.alloc (.cells cs 52)).grownBy wa v.ownBlock) : Blk wa (w.heap.size + 1) 42 #[.int .i64 md, .bool nt, v] := by
  obtain ⟨h1, h2, h3, h4, h5⟩ := h
  refine (h1.alloc (.cells cs 52)).grown hga (fun e => ?_)
  have := (World.ownsRow.lt h4 _ e.symm).1
  omega
theorem AtR.append {wa : World} {A : Option Addr} {k c : Nat} {lo hi : Int} {cs : Array Value} (h : AtR w wr g s may md nt v sps st) (hg : g < w.heap.size) (hga : (wr.alloc (.cells cs 52)).grownBy wa v.ownBlock)
    (hown : wa.ownsRow (w.heap.size + 2) 52 2 (.slice A k c) (sps.length + 1) (sps.flatMap spanC ++ [.int .i64 lo, .int .i64 hi])) :
    AtR w (wa.setCell ⟨w.heap.size + 1, 2, none⟩ (.slice A k c)) g s may md nt (.slice A k c) (sps ++ [(lo, hi)]) st := by
  have hX := h.blk_new hga
  obtain ⟨h1, h2, h3, h4, h5⟩ := h
  have hlt := World.ownsRow.lt h4
  have hnew := World.ownsRow.lt hown
  have gs := gb_set wa (w.heap.size + 1) 2 (.slice A k c)
  have hr : RP wa g s st may := (Blk.alloc h2 _ : Blk (wr.alloc (.cells cs 52)) g 49 _).grown hga (fun e => by have := (hlt _ e.symm).1; omega)
  have h5' : Blk wa w.heap.size 42 #[.int .i64 0, .bool false, .slice none 0 0] := (h5.alloc (.cells cs 52)).grown hga (fun e => by have := (hlt _ e.symm).1; omega)
  have h3' : w.grownBy wa (some g) := gb_own (gb_alloc h3 _) hga (fun i e => by have := (hlt i e).1; omega)
  refine ⟨by simpa using hX.set_ 2 (.slice A k c), hr.grown gs (by simp; omega), gb_own h3' gs (fun i e => by cases e; omega), ?_, h5'.grown gs (by simp)⟩
  have hk := World.ownsRow.kept hown gs (.inr (fun e => by have := (hnew _ e).1; omega))
  simpa [List.flatMap_append, spanC] using hk
theorem blk2 {w : World} {g : Nat} {t : TypeId} {a b : Value} (h : Blk w g t #[a, b]) :
    g < w.heap.size ∧ w.cell? ⟨g, 0, none⟩ = some a ∧ w.cell? ⟨g, 1, none⟩ = some b ∧ w.frozen? ⟨g, 0, none⟩ = false ∧ w.frozen? ⟨g, 1, none⟩ = false := ⟨h.lt, h.cell 0, h.cell 1, h.frozen 0, h.frozen 1⟩
end
set_option maxRecDepth 100000 in
set_option maxHeartbeats 6400000 in
theorem prel_any (s : ByteArray) (st : St) (may : Bool) (g : Nat) (w : World) (hs : s.size ≤ 400) (h : RP w g s st may) :
    Calls Try.prog 21 #[.pointer (some ⟨g, 0, none⟩)] w (RetRelR w g s may (relS s.data.toList st)) := by
  obtain ⟨sl, hsl⟩ : ∃ sl, s.data.toList = sl := ⟨_, rfl⟩
  have hlen : Hid (sl.length = s.size) := by rw [Hid, ← hsl]; simp
  obtain ⟨R, hR⟩ : ∃ R, relS s.data.toList st = R := ⟨_, rfl⟩
  rw [hR]
  rw [hsl] at hR
  have hg : g < w.heap.size := Blk.lt h
  obtain ⟨i0, hi0, hz0, hz1, hz2⟩ := info_partsK spanJ
  have hX0 : Hid (AtR w ((w.alloc (.cells #[.int .i64 0, .bool false, .slice none 0 0] 42)).alloc (.cells #[.int .i64 0, .bool false, .slice none 0 0] 42)) g s may 0 false (.slice none 0 0) [] st) := by
    have h1 := Blk.new w 42 #[.int .i64 0, .bool false, .slice none 0 0]
    have h2 := Blk.new (w.alloc (.cells #[.int .i64 0, .bool false, .slice none 0 0] 42)) 42 #[.int .i64 0, .bool false, .slice none 0 0]
    rw [World.size_alloc] at h2
    exact ⟨h2, (Blk.alloc (Blk.alloc h _) _ : Blk _ g 49 _), gb_alloc (gb_alloc (gb_refl _ _) _) _, World.ownsRow_nil _ _ _ _, h1.alloc _⟩
  have hRe : Hid (R = (⟨(headS sl st).1, (headS sl st).2.1, (spansF sl (sl.length + 1) (headS sl st).2.2).1⟩, (spansF sl (sl.length + 1) (headS sl st).2.2).2)) := hR.symm
  clear hR
  refine calls_of_wpQ Try.func21 rfl ?_
  intro Q hQ
  simp only [Try.ntmps21, List.size_toArray, List.length_cons, List.length_nil, Nat.reduceAdd, Nat.reduceSub, Array.replicate_succ, Array.replicate_zero, List.push_toArray, List.append_toArray, List.nil_append, List.cons_append]
  go_wp2_with fail
  refine (take_any s ⟨#[105, 32]⟩ st may g _ hs (by decide) (by decide) hX0.out.2.1).mono ?_
  rintro e w1 ⟨rfl, g1, hr1⟩
  have hX1 := hid_mk (hX0.out.call hg g1 hr1)
  clear hX0 g1 hr1
  obtain ⟨st1, e1⟩ : ∃ st1, mustS sl [105, 32] st = st1 := ⟨_, rfl⟩
  have e1' : mustS s.data.toList (⟨#[105, 32]⟩ : ByteArray).data.toList st = st1 := by rw [hsl]; exact e1
  rw [e1'] at hX1
  clear e1'
  obtain ⟨N1, hN1⟩ : ∃ N1, nowS sl st1 = N1 := ⟨_, rfl⟩
  have hI1 : isS sl 37 st1 = (N1 == 37) := by rw [now_is, hN1]; rfl
  go_wp2_with fail
  refine (now_any s st1 may g _ hX1.out.2.1).mono ?_
  rw [hsl, hN1]
  rintro e w2 ⟨rfl, hb2⟩
  have hX2 := hid_mk (hX1.out.quiet hg hb2)
  clear hX1 hb2
  replace hN1 := hid_mk hN1
  go_upto_if 11 with fail
  go_cut [] from 6 (fun wx => ∃ (m : Option Int) (st2 : St), Hid (AtR w wx g s (may && mayMod m) (rMod m) false (.slice none 0 0) [] st2) ∧ Hid (modS sl st1 = (m, st2)))
  case first =>
    cases hp : isS sl 37 st1
    · have hm : Hid (modS sl st1 = (none, st1)) := by rw [Hid]; unfold modS; rw [hp]; rfl
      rw [hp] at hI1
      have hb := hI1.symm
      clear hI1
      replace hp := hid_mk hp
      go_wp2_with fail
      go_meet
      exact ⟨none, st1, (by rw [Hid, mayMod, Bool.and_true]; exact hX2.out), hm⟩
    · obtain ⟨st3, e3⟩ : ∃ st3, mustS sl [37, 32] st1 = st3 := ⟨_, rfl⟩
      obtain ⟨⟨k, st4⟩, e4⟩ : ∃ q, numS sl st3 = q := ⟨_, rfl⟩
      obtain ⟨st5, e5⟩ : ∃ st5, mustS sl [32] st4 = st5 := ⟨_, rfl⟩
      have hm : Hid (modS sl st1 = (some k, st5)) := by rw [Hid]; unfold modS; rw [hp, if_pos rfl, e3, e4, e5]
      have e3' : mustS s.data.toList (⟨#[37, 32]⟩ : ByteArray).data.toList st1 = st3 := by rw [hsl]; exact e3
      have e5' : mustS s.data.toList (⟨#[32]⟩ : ByteArray).data.toList st4 = st5 := by rw [hsl]; exact e5
      rw [hp] at hI1
      have hb := hI1.symm
      clear hI1
      replace hp := hid_mk hp
      replace e3' := hid_mk e3'
      replace e5' := hid_mk e5'
      replace e4 := hid_mk e4
      clear e3 e5
      go_wp2_with fail
      refine (take_any s ⟨#[37, 32]⟩ st1 may g _ hs (by decide) (by decide) hX2.out.2.1).mono ?_
      rw [e3'.out]
      rintro e w3 ⟨rfl, g3, hr3⟩
      have hX3 := hid_mk (hX2.out.call hg g3 hr3)
      clear g3 hr3 hX2
      go_wp2_with fail
      refine (rnumber_any s st3 may g _ hs hX3.out.2.1).mono ?_
      rw [hsl, e4.out]
      rintro e w4 ⟨rfl, g4, hr4⟩
      have hX4 := hid_mk (hX3.out.call hg g4 hr4)
      clear g4 hr4 hX3
      dsimp only at *
      obtain ⟨y0, y1, y2, y3, z1, z2, z3⟩ := blk3r hX4.out.1
      have hX5 := hid_mk (hX4.out.md_ hg k)
      go_wp2_with fail
      refine (take_any s ⟨#[32]⟩ st4 may g _ hs (by decide) (by decide) hX5.out.2.1).mono ?_
      rw [e5'.out]
      rintro e w5 ⟨rfl, g5, hr5⟩
      have hX6 := hid_mk (hX5.out.call hg g5 hr5)
      clear g5 hr5 y0 y1 y2 y3 z1 z2 z3
      obtain ⟨y0, y1, y2, y3, z1, z2, z3⟩ := blk3r hX6.out.1
      obtain ⟨x0, c0, c1, c2, c3, f1, f2, f3⟩ := hX6.out.2.1.cells_
      dsimp only at *
      cases may
      · have hX7 := hid_mk (hX6.out.may_ hg false)
        go_wp2_with fail
        go_meet
        exact ⟨some k, st5, hX7, hm⟩
      · by_cases hk : 0 < k
        · have hX7 := hid_mk (hX6.out.may_ hg true)
          go_wp2_with fail
          go_meet
          exact ⟨some k, st5, (by rw [Hid, mayMod, decide_eq_true hk]; exact hX7.out), hm⟩
        · have hX7 := hid_mk (hX6.out.may_ hg false)
          go_wp2_with fail
          go_meet
          exact ⟨some k, st5, (by rw [Hid, mayMod, decide_eq_false (by omega : ¬ 0 < k)]; exact hX7.out), hm⟩
  case rest =>
    obtain ⟨m, st2, hX3, hmod⟩ := hcut
    clear hX2 hI1 hN1
    obtain ⟨may1, hmay1⟩ : ∃ may1, (may && mayMod m) = may1 := ⟨_, rfl⟩
    rw [hmay1] at hX3
    replace hmay1 := hid_mk hmay1
    obtain ⟨N1, hN1⟩ : ∃ N1, nowS sl st2 = N1 := ⟨_, rfl⟩
    have hI1 : isS sl 33 st2 = (N1 == 33) := by rw [now_is, hN1]; rfl
    go_wp2_with fail
    refine (now_any s st2 may1 g _ hX3.out.2.1).mono ?_
    rw [hsl, hN1]
    rintro e w3 ⟨rfl, hb3⟩
    have hX4 := hid_mk (hX3.out.quiet hg hb3)
    clear hX3 hb3
    replace hN1 := hid_mk hN1
    go_upto_if 33 with fail
    go_cut [] from 6 (fun wx => ∃ (nt : Bool) (st3 : St), Hid (AtR w wx g s may1 (rMod m) nt (.slice none 0 0) [] st3) ∧ Hid (notS sl st2 = (nt, st3)))
    case first =>
      cases hp : isS sl 33 st2
      · have hm : Hid (notS sl st2 = (false, st2)) := by rw [Hid]; unfold notS; rw [hp]; rfl
        rw [hp] at hI1
        have hb := hI1.symm
        clear hI1
        replace hp := hid_mk hp
        go_wp2_with fail
        go_meet
        exact ⟨false, st2, hX4, hm⟩
      · have hm : Hid (notS sl st2 = (true, ⟨st2.at_ + 1, 0⟩)) := by rw [Hid]; unfold notS; rw [hp, if_pos rfl, must_is hp]
        obtain ⟨hb0, hat⟩ := isS_lt hp
        rw [hp] at hI1
        have hb := hI1.symm
        clear hI1
        replace hp := hid_mk hp
        obtain ⟨a, b⟩ := st2
        dsimp only at hb0 hat hm
        subst hb0
        obtain ⟨y0, y1, y2, y3, z1, z2, z3⟩ := blk3r hX4.out.1
        obtain ⟨x0, c0, c1, c2, c3, f1, f2, f3⟩ := hX4.out.2.1.cells_
        dsimp only at c1 c2
        have hls := hlen.out
        have wa : IntKind.i64.wrap ((a : Int) + 1) = (a : Int) + 1 := IntWalk.i64_in _ (by omega)
        have hX6 := hid_mk ((hX4.out.next hg).nt_ hg true)
        have hgn : ¬ g = w.heap.size + 1 := by omega
        go_wp2_with fail
        go_meet
        exact ⟨true, ⟨a + 1, 0⟩, hX6, hm⟩
    case rest =>
      clear hX4 hI1 hN1
      obtain ⟨nt, st3, hX5, hnt⟩ := hcut
      obtain ⟨st4, e4⟩ : ∃ st4, mustS sl [61, 32] st3 = st4 := ⟨_, rfl⟩
      have hh : Hid (headS sl st = (m, nt, st4)) := by rw [Hid]; unfold headS; rw [e1, hmod.out]; dsimp only; rw [hnt.out]; dsimp only; rw [e4]
      have e4' : mustS s.data.toList (⟨#[61, 32]⟩ : ByteArray).data.toList st3 = st4 := by rw [hsl]; exact e4
      go_wp2_with fail
      refine (take_any s ⟨#[61, 32]⟩ st3 may1 g _ hs (by decide) (by decide) hX5.out.2.1).mono ?_
      rw [e4']
      rintro e w6 ⟨rfl, g6, hr6⟩
      have hX6 := hid_mk (hX5.out.call hg g6 hr6)
      clear g6 hr6 hX5 e4 e4' e1 hmod hnt
      obtain ⟨Rl, hRLe⟩ : ∃ Rl, spansF sl (sl.length + 1) st4 = Rl := ⟨_, rfl⟩
      have hRL : Hid (spansF sl (sl.length + 1) (m, nt, st4).2.2 = Rl) := hRLe
      have hR0 : Hid (Rl = ([] ++ (spansF sl (sl.length + 1) st4).1, (spansF sl (sl.length + 1) st4).2)) := by rw [Hid, hRLe]; rfl
      clear hRLe
      go_wp2_with fail
      go_loopw [4] (fun mv wr => ∃ (b : Bool) (acc : List (Int × Option Int)) (v : Value) (stl : St) (f : Nat) (mayl : Bool), mv = .bool b ∧ Hid (AtR w wr g s mayl (rMod m) nt v (acc.map rSpan) stl) ∧ Hid (mayl = (may1 && acc.all maySpan)) ∧ (b = true → Hid (Rl = (acc ++ (spansF sl f stl).1, (spansF sl f stl).2)) ∧ sl.length + 1 ≤ f + stl.at_ ∧ 1 ≤ f ∧ (acc.length = 0 ∨ (acc.length ≤ stl.at_ ∧ stl.at_ ≤ 400))) ∧ (b = false → Hid (Rl = (acc, stl)) ∧ acc.length ≤ 401)) (fun mv wr => match mv with | .bool true => s.size + 1 - (match wr.cell? ⟨g, 1, none⟩ with | some (.int _ a) => a.toNat | _ => 0) + 1 | _ => 0)
      case atStart => exact ⟨true, [], _, st4, sl.length + 1, may1, rfl, hX6, (by rw [Hid]; simp), (fun _ => ⟨hR0, by omega, by omega, .inl rfl⟩), (fun hh => by cases hh)⟩
      case round =>
        clear hX6 hR0
        obtain ⟨b, acc, v, stl, f0, mayl, rfl, hX7, hml, hbt, hbf⟩ := hrel
        cases b
        · obtain ⟨hfin, hal⟩ := hbf rfl
          clear hbt hbf
          obtain ⟨sps, hsps⟩ : ∃ sps, acc.map rSpan = sps := ⟨_, rfl⟩
          rw [hsps] at hX7
          have hspl : Hid (sps.length = acc.length) := by rw [Hid, ← hsps]; simp
          have hal2 : sps.length ≤ 401 := by rw [hspl.out]; exact hal
          replace hsps := hid_mk hsps
          obtain ⟨A2, cp2, rfl, hk1, hk2⟩ := own_slice hX7.out.2.2.2.1
          obtain ⟨y0, y1, y2, y3, z1, z2, z3⟩ := blk3r hX7.out.1
          obtain ⟨a0, a1, a2, a3, b1, b2, b3⟩ := blk3r hX7.out.2.2.2.2
          go_wp2
          have gs : wr.grownBy (((wr.setCell ⟨w.heap.size, 0, none⟩ (.int .i64 (rMod m))).setCell ⟨w.heap.size, 1, none⟩ (.bool nt)).setCell ⟨w.heap.size, 2, none⟩ (.slice A2 sps.length cp2)) (some w.heap.size) := gb_trans (gb_trans (gb_set _ _ _ _) (gb_set _ _ _ _)) (gb_set _ _ _ _)
          obtain ⟨p1, p2, p3, p4, p5⟩ := hX7.out
          have p5' := ((p5.set_ 0 (.int .i64 (rMod m))).set_ 1 (.bool nt)).set_ 2 (.slice A2 sps.length cp2)
          obtain ⟨a0, a1, a2, a3, b1, b2, b3⟩ := blk3r (show Blk _ w.heap.size 42 #[.int .i64 (rMod m), .bool nt, .slice A2 sps.length cp2] by simpa using p5')
          have p4' := World.ownsRow.kept p4 gs (.inr (fun e => by have := (World.ownsRow.lt p4 _ e).1; omega))
          refine ends_ret hQ (v := .agg #[.int .i64 (rMod m), .bool nt, .slice A2 sps.length cp2]) (by simp [results, Try.results21, go_sem, a1, a2, a3]) rfl ?_
          refine ⟨A2, sps.length, cp2, by rw [hRe.out, hh.out], ?_, by omega, gb_own p3 gs (fun i e => by cases e; omega), ?_⟩
          · rw [hRe.out]
            show Spans _ 0 A2 _ ((spansF sl (sl.length + 1) (headS sl st).2.2).1.map rSpan)
            rw [hh.out, hRL.out, hfin.out]
            have := reads_of_own (B := 0) p4'
            rw [hsps.out]
            exact this
          · rw [hRe.out]
            show RP _ g s (spansF sl (sl.length + 1) (headS sl st).2.2).2 (may && (mayMod (headS sl st).1 && (spansF sl (sl.length + 1) (headS sl st).2.2).1.all maySpan))
            rw [hh.out, hRL.out, hfin.out, ← Bool.and_assoc, hmay1.out, ← hml.out]
            exact p2.grown gs (by simp; omega)
        obtain ⟨hRl, hf, hf1, hac⟩ := hbt rfl
        clear hbt hbf
        obtain ⟨f, rfl⟩ : ∃ f, f0 = f + 1 := ⟨f0 - 1, by omega⟩
        obtain ⟨sps, hsps⟩ : ∃ sps, acc.map rSpan = sps := ⟨_, rfl⟩
        rw [hsps] at hX7
        have hspl : sps.length = acc.length := by rw [← hsps]; simp
        rw [← hspl] at hac
        replace hsps := hid_mk hsps
        replace hspl := hid_mk hspl
        have q20 := hX7.out.2.1.cells_.2.2.1
        have k63 : sps.length + 1 ≤ maxLen := by unfold maxLen; omega
        have kby : (sps.length + 1) * 16 ≤ 140737488355328 := by omega
        obtain ⟨⟨lo, st5⟩, e5⟩ : ∃ q, numS sl stl = q := ⟨_, rfl⟩
        have e5h := hid_mk e5
        have hkge : w.heap.size + 2 ≤ wr.heap.size := by have := (blk3r hX7.out.1).1; omega
        have hown7 := hX7.out.own_lt (Nat.le_refl wr.heap.size)
        obtain ⟨kb, hkb⟩ : ∃ kb, wr.heap.size = kb := ⟨_, rfl⟩
        have hXa := hid_mk (hX7.out.alloc (.cells #[.int .i64 0, .int .i64 0] 52))
        have hSa := hid_mk (Blk.new wr 52 #[.int .i64 0, .int .i64 0])
        go_wp2_with fail
        refine (rnumber_any s stl mayl g _ hs hXa.out.2.1).mono ?_
        rw [hsl, e5h.out]
        rintro e w7 ⟨rfl, g7, hr7⟩
        have hX8 := hid_mk (hXa.out.call hg g7 hr7)
        have hS8 := hid_mk (hSa.out.grown g7 (by simp; omega))
        clear g7 hr7 hXa hSa
        rw [hkb] at hkge hown7 hS8
        dsimp only at *
        obtain ⟨t0, t1, t2, t3, t4⟩ := blk2 hS8.out
        have hX8b := hid_mk ((hX8.out.far hg hkge hown7 0 (.int .i64 lo)).far hg hkge hown7 1 (.int .i64 lo))
        have hS8b : Hid (Blk ((w7.setCell ⟨kb, 0, none⟩ (.int .i64 lo)).setCell ⟨kb, 1, none⟩ (.int .i64 lo)) kb 52 #[.int .i64 lo, .int .i64 lo]) := by
          have := (hS8.out.set_ 0 (.int .i64 lo)).set_ 1 (.int .i64 lo)
          simpa [Hid] using this
        obtain ⟨N2, hN2⟩ : ∃ N2, nowS sl st5 = N2 := ⟨_, rfl⟩
        have hI2 : isS sl 46 st5 = (N2 == 46) := by rw [now_is, hN2]; rfl
        replace hN2 := hid_mk hN2
        go_wp2_with fail
        refine (now_any s st5 mayl g _ hX8b.out.2.1).mono ?_
        rw [hsl, hN2.out]
        cases hdot : isS sl 46 st5
        · have ho : Hid (oneSpan sl stl = ((lo, none), st5)) := by rw [Hid]; unfold oneSpan; rw [e5]; dsimp only; rw [hdot]; rfl
          have hc : Hid (rSpan (lo, none) = (lo, lo)) := rfl
          have hmm : Hid (maySpan (lo, none) = true) := rfl
          rw [hdot] at hI2
          have hb46 := hI2.symm
          clear hI2
          replace hdot := hid_mk hdot
          clear e5 t0 t1 t2 t3 t4
          rintro e w9 ⟨rfl, hb9⟩
          have hX9 := hid_mk (hX8b.out.quiet hg hb9)
          have hS9 := hid_mk (hS8b.out.keep hb9)
          clear hb9 hX8 hX8b hS8 hS8b
          have hmn2 : Hid (mayl = (mayl && maySpan (lo, none))) := by rw [Hid, hmm.out, Bool.and_true]
          obtain ⟨A1, cp1, rfl, hk1, hk2⟩ := own_slice hX9.out.2.2.2.1
          have hownA := hid_mk (hX9.out.2.2.2.1.alloc (.cells #[.int .i64 lo, .int .i64 lo] 52))
          have hnew := hid_mk (reads_new w9 #[.int .i64 lo, .int .i64 lo] 52 1 2 0 rfl)
          obtain ⟨y0, y1, y2, y3, z1, z2, z3⟩ := blk3r hX9.out.1
          obtain ⟨t0, t1, t2, t3, t4⟩ := blk2 hS9.out
          have hbase : w.heap.size + 2 ≤ (w9.alloc (.cells #[.int .i64 lo, .int .i64 lo] 52)).heap.size := by rw [World.size_alloc]; omega
          have hmn3 : Hid (mayl = (may1 && (acc ++ [(lo, none)]).all maySpan)) := by rw [Hid, List.all_append, List.all_cons, List.all_nil, Bool.and_true, ← Bool.and_assoc, ← hml.out]; exact hmn2.out
          go_wp2_with (at_builtin; refine wpList_append_any _ rfl (.tmp 75) (.tmp 77) 40 rfl (w.heap.size + 2) 52 i0 _ 2 16 Try.underlying40 hi0 hz0 hz1 hz2 rfl (by omega) (.slice A1 sps.length cp1) sps.length _ rfl hownA.out 0 (some ⟨w9.heap.size, 0, none⟩) 1 1 [.int .i64 lo, .int .i64 lo] (by simp [Act.eval]) hnew.out (span_one [(lo, lo)]) k63 kby hbase ?_; intro va wa howna hga hat1; obtain ⟨A2, cp2, rfl, hk3, hk4⟩ := own_slice howna; have hXa := hX9.out.blk_new hga; have hXb := hid_mk (hX9.out.append hg hga howna); obtain ⟨y0, y1, y2, y3, z1, z2, z3⟩ := blk3r hXa; clear hXa)
          obtain ⟨N3, hN3⟩ : ∃ N3, nowS sl st5 = N3 := ⟨_, rfl⟩
          have hI3 : isS sl 44 st5 = (N3 == 44) := by rw [now_is, hN3]; rfl
          refine (now_any s st5 mayl g _ hXb.out.2.1).mono ?_
          rw [hsl, hN3]
          replace hN3 := hid_mk hN3
          cases hcm : isS sl 44 st5
          · have hfin : Hid (Rl = (acc ++ [(lo, none)], st5)) := by rw [Hid, hRl.out, spansF_one, ho.out, hcm]; rfl
            rw [hcm] at hI3
            have hb44 := hI3.symm
            clear hI3
            replace hcm := hid_mk hcm
            rintro e w10 ⟨rfl, hb10⟩
            have hX11 := hid_mk (hXb.out.quiet hg hb10)
            clear hXb hb10 y0 y1 y2 y3 z1 z2 z3
            go_wp2
            go_roundw
            case rel => exact ⟨false, acc ++ [(lo, none)], _, st5, 0, mayl, rfl, (by rw [Hid, List.map_append, hsps.out, List.map_cons, List.map_nil, hc.out]; exact hX11.out), hmn3, (fun h => by cases h), (fun _ => ⟨hfin, by have := hspl.out; simp; omega⟩)⟩
            case measure => simp
          · obtain ⟨hz, hlt⟩ := isS_lt hcm
            have hmn := oneSpan_mono sl stl
            rw [ho.out] at hmn
            rw [hcm] at hI3
            have hb44 := hI3.symm
            clear hI3
            obtain ⟨a5, b5⟩ := st5
            dsimp only at hz hlt hmn
            subst hz
            have hfin : Hid (Rl = ((acc ++ [(lo, none)]) ++ (spansF sl f ⟨a5 + 1, 0⟩).1, (spansF sl f ⟨a5 + 1, 0⟩).2)) := by rw [Hid, hRl.out, spansF_one, ho.out, hcm]; simp
            have hls := hlen.out
            replace hcm := hid_mk hcm
            rintro e w10 ⟨rfl, hb10⟩
            have hX11 := hid_mk (hXb.out.quiet hg hb10)
            clear hXb hb10 y0 y1 y2 y3 z1 z2 z3
            obtain ⟨x0, c0, c1, c2, c3, f1, f2, f3⟩ := hX11.out.2.1.cells_
            dsimp only at c1 c2
            have hmz : s.size - a5 < s.size + 1 - stl.at_ := by omega
            have wa5 : IntKind.i64.wrap ((a5 : Int) + 1) = (a5 : Int) + 1 := IntWalk.i64_in _ (by omega)
            go_wp2
            go_roundw
            case rel => exact ⟨true, acc ++ [(lo, none)], _, ⟨a5 + 1, 0⟩, f, mayl, rfl, (by rw [Hid, List.map_append, hsps.out, List.map_cons, List.map_nil, hc.out]; exact hX11.out.next hg), hmn3, (fun _ => ⟨hfin, by dsimp only; omega, by omega, .inr ⟨by have := hspl.out; simp; omega, by dsimp only; omega⟩⟩), (fun h => by cases h)⟩
            case measure => simp [World.cell?_setCell_same', c1, q20]; exact hmz
        · obtain ⟨st6, e6⟩ : ∃ st6, mustS sl [46, 46] st5 = st6 := ⟨_, rfl⟩
          obtain ⟨⟨hi, st7⟩, e7⟩ : ∃ q, numS sl st6 = q := ⟨_, rfl⟩
          have ho : Hid (oneSpan sl stl = ((lo, some hi), st7)) := by rw [Hid]; unfold oneSpan; rw [e5]; dsimp only; rw [hdot, e6, e7]; rfl
          have hc : Hid (rSpan (lo, some hi) = (lo, hi)) := rfl
          have e6' : mustS s.data.toList (⟨#[46, 46]⟩ : ByteArray).data.toList st5 = st6 := by rw [hsl]; exact e6
          rw [hdot] at hI2
          have hb46 := hI2.symm
          clear hI2
          replace hdot := hid_mk hdot
          replace e6' := hid_mk e6'
          replace e7 := hid_mk e7
          clear e5 e6 t0 t1 t2 t3 t4
          rintro e w11 ⟨rfl, hb11⟩
          have hX10 := hid_mk (hX8b.out.quiet hg hb11)
          have hS10 := hid_mk (hS8b.out.keep hb11)
          clear hb11 hX8 hX8b hS8 hS8b
          go_wp2_with fail
          refine (take_any s ⟨#[46, 46]⟩ st5 mayl g _ hs (by decide) (by decide) hX10.out.2.1).mono ?_
          rw [e6'.out]
          rintro e w12 ⟨rfl, g12, hr12⟩
          have hX12 := hid_mk (hX10.out.call hg g12 hr12)
          have hS12 := hid_mk (hS10.out.grown g12 (by simp; omega))
          clear g12 hr12 hX10 hS10
          go_wp2_with fail
          refine (rnumber_any s st6 mayl g _ hs hX12.out.2.1).mono ?_
          rw [hsl, e7.out]
          rintro e w13 ⟨rfl, g13, hr13⟩
          have hX13 := hid_mk (hX12.out.call hg g13 hr13)
          have hS13 := hid_mk (hS12.out.grown g13 (by simp; omega))
          clear g13 hr13 hX12 hS12
          dsimp only at *
          obtain ⟨t0, t1, t2, t3, t4⟩ := blk2 hS13.out
          obtain ⟨x0, c0, c1, c2, c3, f1, f2, f3⟩ := hX13.out.2.1.cells_
          have hX14 := hid_mk (hX13.out.far hg hkge hown7 1 (.int .i64 hi))
          have hS14 : Hid (Blk (w13.setCell ⟨kb, 1, none⟩ (.int .i64 hi)) kb 52 #[.int .i64 lo, .int .i64 hi]) := by
            have := hS13.out.set_ 1 (.int .i64 hi)
            simpa [Hid] using this
          have hgk : ¬ g = kb := by omega
          have hgk2 : ¬ kb = g := by omega
          have hX15 := fun b => hX14.out.may_ hg b
          have hS15 := fun b => hS14.out.far (p := ⟨g, 3, none⟩) (by dsimp only; omega) (Value.bool b)
          replace hX15 := hid_mk hX15
          replace hS15 := hid_mk hS15
          have hmm : Hid (maySpan (lo, some hi) = decide (lo < hi)) := rfl
          clear hX13 hX14 hS13 hS14
          cases mayl
          · go_upto_region 21 with fail
            generalize hwq : (w13.setCell ⟨kb, 1, none⟩ (.int .i64 hi)).setCell ⟨g, 3, none⟩ (.bool false) = w9
            have hX9 := hid_mk (hX15.out false)
            have hS9 := hid_mk (hS15.out false)
            rw [hwq] at hX9 hS9
            clear hwq hX15 hS15 t0 t1 t2 t3 t4 x0 c0 c1 c2 c3 f1 f2 f3
            have hmn2 : Hid (false = (false && maySpan (lo, some hi))) := rfl
            obtain ⟨A1, cp1, rfl, hk1, hk2⟩ := own_slice hX9.out.2.2.2.1
            have hownA := hid_mk (hX9.out.2.2.2.1.alloc (.cells #[.int .i64 lo, .int .i64 hi] 52))
            have hnew := hid_mk (reads_new w9 #[.int .i64 lo, .int .i64 hi] 52 1 2 0 rfl)
            obtain ⟨y0, y1, y2, y3, z1, z2, z3⟩ := blk3r hX9.out.1
            obtain ⟨t0, t1, t2, t3, t4⟩ := blk2 hS9.out
            have hbase : w.heap.size + 2 ≤ (w9.alloc (.cells #[.int .i64 lo, .int .i64 hi] 52)).heap.size := by rw [World.size_alloc]; omega
            have hmn3 : Hid (false = (may1 && (acc ++ [(lo, some hi)]).all maySpan)) := by rw [Hid, List.all_append, List.all_cons, List.all_nil, Bool.and_true, ← Bool.and_assoc, ← hml.out]; exact hmn2.out
            go_wp2_with (at_builtin; refine wpList_append_any _ rfl (.tmp 75) (.tmp 77) 40 rfl (w.heap.size + 2) 52 i0 _ 2 16 Try.underlying40 hi0 hz0 hz1 hz2 rfl (by omega) (.slice A1 sps.length cp1) sps.length _ rfl hownA.out 0 (some ⟨w9.heap.size, 0, none⟩) 1 1 [.int .i64 lo, .int .i64 hi] (by simp [Act.eval]) hnew.out (span_one [(lo, hi)]) k63 kby hbase ?_; intro va wa howna hga hat1; obtain ⟨A2, cp2, rfl, hk3, hk4⟩ := own_slice howna; have hXa := hX9.out.blk_new hga; have hXb := hid_mk (hX9.out.append hg hga howna); obtain ⟨y0, y1, y2, y3, z1, z2, z3⟩ := blk3r hXa; clear hXa)
            obtain ⟨N3, hN3⟩ : ∃ N3, nowS sl st7 = N3 := ⟨_, rfl⟩
            have hI3 : isS sl 44 st7 = (N3 == 44) := by rw [now_is, hN3]; rfl
            refine (now_any s st7 false g _ hXb.out.2.1).mono ?_
            rw [hsl, hN3]
            replace hN3 := hid_mk hN3
            cases hcm : isS sl 44 st7
            · have hfin : Hid (Rl = (acc ++ [(lo, some hi)], st7)) := by rw [Hid, hRl.out, spansF_one, ho.out, hcm]; rfl
              rw [hcm] at hI3
              have hb44 := hI3.symm
              clear hI3
              replace hcm := hid_mk hcm
              rintro e w10 ⟨rfl, hb10⟩
              have hX11 := hid_mk (hXb.out.quiet hg hb10)
              clear hXb hb10 y0 y1 y2 y3 z1 z2 z3
              go_wp2
              go_roundw
              case rel => exact ⟨false, acc ++ [(lo, some hi)], _, st7, 0, false, rfl, (by rw [Hid, List.map_append, hsps.out, List.map_cons, List.map_nil, hc.out]; exact hX11.out), hmn3, (fun h => by cases h), (fun _ => ⟨hfin, by have := hspl.out; simp; omega⟩)⟩
              case measure => simp
            · obtain ⟨hz, hlt⟩ := isS_lt hcm
              have hmn := oneSpan_mono sl stl
              rw [ho.out] at hmn
              rw [hcm] at hI3
              have hb44 := hI3.symm
              clear hI3
              obtain ⟨a5, b5⟩ := st7
              dsimp only at hz hlt hmn
              subst hz
              have hfin : Hid (Rl = ((acc ++ [(lo, some hi)]) ++ (spansF sl f ⟨a5 + 1, 0⟩).1, (spansF sl f ⟨a5 + 1, 0⟩).2)) := by rw [Hid, hRl.out, spansF_one, ho.out, hcm]; simp
              have hls := hlen.out
              replace hcm := hid_mk hcm
              rintro e w10 ⟨rfl, hb10⟩
              have hX11 := hid_mk (hXb.out.quiet hg hb10)
              clear hXb hb10 y0 y1 y2 y3 z1 z2 z3
              obtain ⟨x0, c0, c1, c2, c3, f1, f2, f3⟩ := hX11.out.2.1.cells_
              dsimp only at c1 c2
              have hmz : s.size - a5 < s.size + 1 - stl.at_ := by omega
              have wa5 : IntKind.i64.wrap ((a5 : Int) + 1) = (a5 : Int) + 1 := IntWalk.i64_in _ (by omega)
              go_wp2
              go_roundw
              case rel => exact ⟨true, acc ++ [(lo, some hi)], _, ⟨a5 + 1, 0⟩, f, false, rfl, (by rw [Hid, List.map_append, hsps.out, List.map_cons, List.map_nil, hc.out]; exact hX11.out.next hg), hmn3, (fun _ => ⟨hfin, by dsimp only; omega, by omega, .inr ⟨by have := hspl.out; simp; omega, by dsimp only; omega⟩⟩), (fun h => by cases h)⟩
              case measure => simp [World.cell?_setCell_same', c1, q20]; exact hmz
          · by_cases hlh : lo < hi
            · go_upto_region 21 with fail
              generalize hwq : (w13.setCell ⟨kb, 1, none⟩ (.int .i64 hi)).setCell ⟨g, 3, none⟩ (.bool true) = w9
              have hX9 := hid_mk (hX15.out true)
              have hS9 := hid_mk (hS15.out true)
              rw [hwq] at hX9 hS9
              clear hwq hX15 hS15 t0 t1 t2 t3 t4 x0 c0 c1 c2 c3 f1 f2 f3
              have hmn2 : Hid (true = (true && maySpan (lo, some hi))) := by rw [Hid, hmm.out, decide_eq_true hlh]; rfl
              obtain ⟨A1, cp1, rfl, hk1, hk2⟩ := own_slice hX9.out.2.2.2.1
              have hownA := hid_mk (hX9.out.2.2.2.1.alloc (.cells #[.int .i64 lo, .int .i64 hi] 52))
              have hnew := hid_mk (reads_new w9 #[.int .i64 lo, .int .i64 hi] 52 1 2 0 rfl)
              obtain ⟨y0, y1, y2, y3, z1, z2, z3⟩ := blk3r hX9.out.1
              obtain ⟨t0, t1, t2, t3, t4⟩ := blk2 hS9.out
              have hbase : w.heap.size + 2 ≤ (w9.alloc (.cells #[.int .i64 lo, .int .i64 hi] 52)).heap.size := by rw [World.size_alloc]; omega
              have hmn3 : Hid (true = (may1 && (acc ++ [(lo, some hi)]).all maySpan)) := by rw [Hid, List.all_append, List.all_cons, List.all_nil, Bool.and_true, ← Bool.and_assoc, ← hml.out]; exact hmn2.out
              go_wp2_with (at_builtin; refine wpList_append_any _ rfl (.tmp 75) (.tmp 77) 40 rfl (w.heap.size + 2) 52 i0 _ 2 16 Try.underlying40 hi0 hz0 hz1 hz2 rfl (by omega) (.slice A1 sps.length cp1) sps.length _ rfl hownA.out 0 (some ⟨w9.heap.size, 0, none⟩) 1 1 [.int .i64 lo, .int .i64 hi] (by simp [Act.eval]) hnew.out (span_one [(lo, hi)]) k63 kby hbase ?_; intro va wa howna hga hat1; obtain ⟨A2, cp2, rfl, hk3, hk4⟩ := own_slice howna; have hXa := hX9.out.blk_new hga; have hXb := hid_mk (hX9.out.append hg hga howna); obtain ⟨y0, y1, y2, y3, z1, z2, z3⟩ := blk3r hXa; clear hXa)
              obtain ⟨N3, hN3⟩ : ∃ N3, nowS sl st7 = N3 := ⟨_, rfl⟩
              have hI3 : isS sl 44 st7 = (N3 == 44) := by rw [now_is, hN3]; rfl
              refine (now_any s st7 true g _ hXb.out.2.1).mono ?_
              rw [hsl, hN3]
              replace hN3 := hid_mk hN3
              cases hcm : isS sl 44 st7
              · have hfin : Hid (Rl = (acc ++ [(lo, some hi)], st7)) := by rw [Hid, hRl.out, spansF_one, ho.out, hcm]; rfl
                rw [hcm] at hI3
                have hb44 := hI3.symm
                clear hI3
                replace hcm := hid_mk hcm
                rintro e w10 ⟨rfl, hb10⟩
                have hX11 := hid_mk (hXb.out.quiet hg hb10)
                clear hXb hb10 y0 y1 y2 y3 z1 z2 z3
                go_wp2
                go_roundw
                case rel => exact ⟨false, acc ++ [(lo, some hi)], _, st7, 0, true, rfl, (by rw [Hid, List.map_append, hsps.out, List.map_cons, List.map_nil, hc.out]; exact hX11.out), hmn3, (fun h => by cases h), (fun _ => ⟨hfin, by have := hspl.out; simp; omega⟩)⟩
                case measure => simp
              · obtain ⟨hz, hlt⟩ := isS_lt hcm
                have hmn := oneSpan_mono sl stl
                rw [ho.out] at hmn
                rw [hcm] at hI3
                have hb44 := hI3.symm
                clear hI3
                obtain ⟨a5, b5⟩ := st7
                dsimp only at hz hlt hmn
                subst hz
                have hfin : Hid (Rl = ((acc ++ [(lo, some hi)]) ++ (spansF sl f ⟨a5 + 1, 0⟩).1, (spansF sl f ⟨a5 + 1, 0⟩).2)) := by rw [Hid, hRl.out, spansF_one, ho.out, hcm]; simp
                have hls := hlen.out
                replace hcm := hid_mk hcm
                rintro e w10 ⟨rfl, hb10⟩
                have hX11 := hid_mk (hXb.out.quiet hg hb10)
                clear hXb hb10 y0 y1 y2 y3 z1 z2 z3
                obtain ⟨x0, c0, c1, c2, c3, f1, f2, f3⟩ := hX11.out.2.1.cells_
                dsimp only at c1 c2
                have hmz : s.size - a5 < s.size + 1 - stl.at_ := by omega
                have wa5 : IntKind.i64.wrap ((a5 : Int) + 1) = (a5 : Int) + 1 := IntWalk.i64_in _ (by omega)
                go_wp2
                go_roundw
                case rel => exact ⟨true, acc ++ [(lo, some hi)], _, ⟨a5 + 1, 0⟩, f, true, rfl, (by rw [Hid, List.map_append, hsps.out, List.map_cons, List.map_nil, hc.out]; exact hX11.out.next hg), hmn3, (fun _ => ⟨hfin, by dsimp only; omega, by omega, .inr ⟨by have := hspl.out; simp; omega, by dsimp only; omega⟩⟩), (fun h => by cases h)⟩
                case measure => simp [World.cell?_setCell_same', c1, q20]; exact hmz
            · go_upto_region 21 with fail
              generalize hwq : (w13.setCell ⟨kb, 1, none⟩ (.int .i64 hi)).setCell ⟨g, 3, none⟩ (.bool false) = w9
              have hX9 := hid_mk (hX15.out false)
              have hS9 := hid_mk (hS15.out false)
              rw [hwq] at hX9 hS9
              clear hwq hX15 hS15 t0 t1 t2 t3 t4 x0 c0 c1 c2 c3 f1 f2 f3
              have hmn2 : Hid (false = (true && maySpan (lo, some hi))) := by rw [Hid, hmm.out, decide_eq_false (by omega : ¬ lo < hi)]; rfl
              obtain ⟨A1, cp1, rfl, hk1, hk2⟩ := own_slice hX9.out.2.2.2.1
              have hownA := hid_mk (hX9.out.2.2.2.1.alloc (.cells #[.int .i64 lo, .int .i64 hi] 52))
              have hnew := hid_mk (reads_new w9 #[.int .i64 lo, .int .i64 hi] 52 1 2 0 rfl)
              obtain ⟨y0, y1, y2, y3, z1, z2, z3⟩ := blk3r hX9.out.1
              obtain ⟨t0, t1, t2, t3, t4⟩ := blk2 hS9.out
              have hbase : w.heap.size + 2 ≤ (w9.alloc (.cells #[.int .i64 lo, .int .i64 hi] 52)).heap.size := by rw [World.size_alloc]; omega
              have hmn3 : Hid (false = (may1 && (acc ++ [(lo, some hi)]).all maySpan)) := by rw [Hid, List.all_append, List.all_cons, List.all_nil, Bool.and_true, ← Bool.and_assoc, ← hml.out]; exact hmn2.out
              go_wp2_with (at_builtin; refine wpList_append_any _ rfl (.tmp 75) (.tmp 77) 40 rfl (w.heap.size + 2) 52 i0 _ 2 16 Try.underlying40 hi0 hz0 hz1 hz2 rfl (by omega) (.slice A1 sps.length cp1) sps.length _ rfl hownA.out 0 (some ⟨w9.heap.size, 0, none⟩) 1 1 [.int .i64 lo, .int .i64 hi] (by simp [Act.eval]) hnew.out (span_one [(lo, hi)]) k63 kby hbase ?_; intro va wa howna hga hat1; obtain ⟨A2, cp2, rfl, hk3, hk4⟩ := own_slice howna; have hXa := hX9.out.blk_new hga; have hXb := hid_mk (hX9.out.append hg hga howna); obtain ⟨y0, y1, y2, y3, z1, z2, z3⟩ := blk3r hXa; clear hXa)
              obtain ⟨N3, hN3⟩ : ∃ N3, nowS sl st7 = N3 := ⟨_, rfl⟩
              have hI3 : isS sl 44 st7 = (N3 == 44) := by rw [now_is, hN3]; rfl
              refine (now_any s st7 false g _ hXb.out.2.1).mono ?_
              rw [hsl, hN3]
              replace hN3 := hid_mk hN3
              cases hcm : isS sl 44 st7
              · have hfin : Hid (Rl = (acc ++ [(lo, some hi)], st7)) := by rw [Hid, hRl.out, spansF_one, ho.out, hcm]; rfl
                rw [hcm] at hI3
                have hb44 := hI3.symm
                clear hI3
                replace hcm := hid_mk hcm
                rintro e w10 ⟨rfl, hb10⟩
                have hX11 := hid_mk (hXb.out.quiet hg hb10)
                clear hXb hb10 y0 y1 y2 y3 z1 z2 z3
                go_wp2
                go_roundw
                case rel => exact ⟨false, acc ++ [(lo, some hi)], _, st7, 0, false, rfl, (by rw [Hid, List.map_append, hsps.out, List.map_cons, List.map_nil, hc.out]; exact hX11.out), hmn3, (fun h => by cases h), (fun _ => ⟨hfin, by have := hspl.out; simp; omega⟩)⟩
                case measure => simp
              · obtain ⟨hz, hlt⟩ := isS_lt hcm
                have hmn := oneSpan_mono sl stl
                rw [ho.out] at hmn
                rw [hcm] at hI3
                have hb44 := hI3.symm
                clear hI3
                obtain ⟨a5, b5⟩ := st7
                dsimp only at hz hlt hmn
                subst hz
                have hfin : Hid (Rl = ((acc ++ [(lo, some hi)]) ++ (spansF sl f ⟨a5 + 1, 0⟩).1, (spansF sl f ⟨a5 + 1, 0⟩).2)) := by rw [Hid, hRl.out, spansF_one, ho.out, hcm]; simp
                have hls := hlen.out
                replace hcm := hid_mk hcm
                rintro e w10 ⟨rfl, hb10⟩
                have hX11 := hid_mk (hXb.out.quiet hg hb10)
                clear hXb hb10 y0 y1 y2 y3 z1 z2 z3
                obtain ⟨x0, c0, c1, c2, c3, f1, f2, f3⟩ := hX11.out.2.1.cells_
                dsimp only at c1 c2
                have hmz : s.size - a5 < s.size + 1 - stl.at_ := by omega
                have wa5 : IntKind.i64.wrap ((a5 : Int) + 1) = (a5 : Int) + 1 := IntWalk.i64_in _ (by omega)
                go_wp2
                go_roundw
                case rel => exact ⟨true, acc ++ [(lo, some hi)], _, ⟨a5 + 1, 0⟩, f, false, rfl, (by rw [Hid, List.map_append, hsps.out, List.map_cons, List.map_nil, hc.out]; exact hX11.out.next hg), hmn3, (fun _ => ⟨hfin, by dsimp only; omega, by omega, .inr ⟨by have := hspl.out; simp; omega, by dsimp only; omega⟩⟩), (fun h => by cases h)⟩
                case measure => simp [World.cell?_setCell_same', c1, q20]; exact hmz
end Go.Proofs.Ytfafinnklniniaa
