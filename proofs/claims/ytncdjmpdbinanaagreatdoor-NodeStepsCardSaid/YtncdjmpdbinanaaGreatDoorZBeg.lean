/-
  WHAT IS PROVED HERE: what node.Begin and the reference's Begin hand back. Conditions: the slices are of at most 2^47 bytes; the library's table stands.
-/
import Derived.Test.YtncdjmpdbinanaaGreatDoorZGEad
import Derived.Test.YtncdjmpdbinanaaGreatDoorZGNd
import Derived.Test.YtncdjmpdbinanaaGreatDoorZGEl1
import Derived.Test.YtncdjmpdbinanaaGreatDoorZGEt
import Derived.Test.YtncdjmpdbinanaaGreatDoorZRLt
import Derived.Deep.DeepCutAuto
namespace Go.Proofs.YtncdjmpdbinanaaGreatDoor
open Go.RowKit

/-- a server that begins -/
def begN (id : Int) (h : Hd) (d : Int) : Nd := ⟨id, h, 0, 0, min (max d 0) 1048576, h.l.base, [], []⟩
def begR (id : Int) (h : Hd) (d : Int) : Nd × Int := if rightN (begN id h d) then (begN id h d, 0) else (zeroN, 1)
/-- a node and a word are handed back -/
def RetNE (w : World) (B : Nat) (r : Nd × Int) (e : Ending) (w' : World) : Prop := ∃ a, e = .returned (.tuple #[nodeV r.1 a, .int .i64 r.2]) ∧ NdOk w' B r.1 a ∧ Below w.heap.size w w'
set_option maxRecDepth 100000 in
set_option maxHeartbeats 3200000 in
theorem NBegin_any (id : Int) (h : Hd) (R V : Slc) (d : Int) (w : World) {B : Nat} (hN : NdOk w B (begN id h d) ⟨R, V, ⟨none, 0, 0⟩, ⟨none, 0, 0⟩⟩) (ht : Tab w) :
    Calls Tryz.prog 41 #[.int .i64 id, hdV h R V, .int .i64 d] w (RetNE w B (begR id h d)) := by
  obtain ⟨zr, hzr⟩ : ∃ x, rightN (begN id h d) = x := ⟨_, rfl⟩
  have hER := fun (w : World) (h1 : NdOk w B (begN id h d) ⟨R, V, ⟨none, 0, 0⟩, ⟨none, 0, 0⟩⟩) (h2 : Tab w) => ERight_any (begN id h d) ⟨R, V, ⟨none, 0, 0⟩, ⟨none, 0, 0⟩⟩ w h1 h2
  rw [hzr] at hER
  obtain ⟨RR, hRR⟩ : ∃ x, begR id h d = x := ⟨_, rfl⟩
  have hcase : Hid ((zr = true → RR = (begN id h d, 0)) ∧ (zr = false → RR = (zeroN, 1))) := by
    rw [← hRR, ← hzr]
    unfold begR
    exact ⟨fun e => if_pos e, fun e => if_neg (by rw [e]; decide)⟩
  rw [hRR]
  unfold begN at hcase hN hER
  obtain ⟨TT, hTT⟩ : ∃ x, min (max d 0) 1048576 = x := ⟨_, rfl⟩
  rw [hTT] at hcase hN hER
  clear hzr hRR
  unfold nodeV at hER
  unfold hdV
  dsimp only at hER
  obtain ⟨w0, hw0⟩ : ∃ x, ((w.alloc (.cells (#[.int .i64 h.t, .int .i64 h.v, .int .i64 h.l.base, .int .i64 h.l.bt, .slice R.A R.n R.c, .string h.s, .slice V.A V.n V.c]) 27)).alloc (.cells (ndC zeroN nilA) 30)) = x := ⟨_, rfl⟩
  have hB : Hid (Bxs w.heap.size w0 [⟨w.heap.size + 1, 30, ndC zeroN nilA⟩, ⟨w.heap.size, 27, #[.int .i64 h.t, .int .i64 h.v, .int .i64 h.l.base, .int .i64 h.l.bt, .slice R.A R.n R.c, .string h.s, .slice V.A V.n V.c]⟩]) := by
    rw [← hw0]
    exact (((Bxs.nil w.heap.size w).add_ rfl (by omega) 27 (#[.int .i64 h.t, .int .i64 h.v, .int .i64 h.l.base, .int .i64 h.l.bt, .slice R.A R.n R.c, .string h.s, .slice V.A V.n V.c])).add_ (by simp) (by omega) 30 (ndC zeroN nilA))
  have q0 : Below w.heap.size w w0 := by rw [← hw0]; go_grown
  have z0 := q0.size
  dsimp only [ndC, msC, zeroN, nilA, zeroM, nilMA] at hw0
  refine calls_of_wpQ Tryz.func41 rfl ?_
  intro Q hQ
  simp only [Tryz.ntmps41, List.size_toArray, List.length_cons, List.length_nil, Nat.reduceAdd, Nat.reduceSub, Array.replicate_succ, Array.replicate_zero, List.push_toArray, List.append_toArray, List.nil_append, List.cons_append]
  go_upto_region 1 with fail
  try rw [hw0]
  clear hw0
  have lH := blk7f (hB.out.at_ 1 rfl)
  obtain ⟨gX, hgX⟩ : ∃ g, w0.heap.size = g := ⟨_, rfl⟩
  have lgX : w.heap.size ≤ gX := by rw [← hgX]; exact q0.size
  replace hB := hid_mk (hB.out.add_ hgX lgX 30 (ndC ⟨id, h, 0, 0, TT, h.l.base, [], []⟩ ⟨R, V, ⟨none, 0, 0⟩, ⟨none, 0, 0⟩⟩))
  have q1 := q0.alloc q0.size (.cells (ndC ⟨id, h, 0, 0, TT, h.l.base, [], []⟩ ⟨R, V, ⟨none, 0, 0⟩, ⟨none, 0, 0⟩⟩) 30)
  obtain ⟨w1, hw1⟩ : ∃ x, w0.alloc (.cells (ndC ⟨id, h, 0, 0, TT, h.l.base, [], []⟩ ⟨R, V, ⟨none, 0, 0⟩, ⟨none, 0, 0⟩⟩) 30) = x := ⟨_, rfl⟩
  rw [hw1] at hB  q1
  try unfold ndC at hw1
  replace hw1 := hid_mk hw1
  replace hgX := hid_mk hgX
  go_upto_region 2 with fail
  try rw [hw1.out]
  try rw [hgX.out]
  clear lH hw1 hgX q0 z0
  have z1 := q1.size
  try rw [hTT]
  replace hTT := hid_mk hTT
  have lX := blk14c (hB.out.at_ 0 rfl)
  go_wp2_with fail
  clear lX
  refine (hER _ (hN.to q1) (ht.to q1)).mono ?_
  rintro e w2 ⟨rfl, hb1⟩
  have q2 := (after (w := w) hb1 q1).1
  have z2 := q2.size
  replace hB := hid_mk (hB.out.keep hb1)
  clear hb1 q1 z1
  cases zr
  case false =>
    have lX := blk14f (hB.out.at_ 0 rfl)
    have lY := blk14f (hB.out.at_ 1 rfl)
    go_wp2
    clear lX lY
    have hfin := hid_mk (hcase.out.2 (by first | rfl | trivial))
    have kf := setN_blk (N := zeroN) (a := nilA) (hB.out.at_ 1 rfl)
    have qz := setN_below zeroN nilA q2 (by omega : w.heap.size ≤ w.heap.size + 1)
    unfold setN set14 zeroN nilA at kf qz
    have rs := blk14c kf
    refine ends_ret hQ (v := .tuple #[.agg (ndC zeroN nilA), .int .i64 1]) (by simp [results, Tryz.results41, go_sem, rs, ndC, zeroN, nilA]) rfl ?_
    exact ⟨nilA, by rw [hfin.out]; rfl, by rw [hfin.out]; exact zero_ok, qz⟩
  have lX := blk14f (hB.out.at_ 0 rfl)
  have lY := blk14f (hB.out.at_ 1 rfl)
  go_wp2
  clear lX lY
  have hfin := hid_mk (hcase.out.1 (by first | rfl | trivial))
  have kf := setN_blk (N := ⟨id, h, 0, 0, TT, h.l.base, [], []⟩) (a := ⟨R, V, ⟨none, 0, 0⟩, ⟨none, 0, 0⟩⟩) (hB.out.at_ 1 rfl)
  have qz := setN_below ⟨id, h, 0, 0, TT, h.l.base, [], []⟩ ⟨R, V, ⟨none, 0, 0⟩, ⟨none, 0, 0⟩⟩ q2 (by omega : w.heap.size ≤ w.heap.size + 1)
  unfold setN set14 at kf qz
  have rs := blk14c kf
  refine ends_ret hQ (v := .tuple #[.agg (ndC ⟨id, h, 0, 0, TT, h.l.base, [], []⟩ ⟨R, V, ⟨none, 0, 0⟩, ⟨none, 0, 0⟩⟩), .int .i64 0]) (by simp [results, Tryz.results41, go_sem, rs, ndC]) rfl ?_
  exact ⟨⟨R, V, ⟨none, 0, 0⟩, ⟨none, 0, 0⟩⟩, by rw [hfin.out]; rfl, by rw [hfin.out]; exact hN.to qz, qz⟩
set_option maxRecDepth 100000 in
set_option maxHeartbeats 3200000 in
theorem RBegin_any (id : Int) (h : Hd) (R V : Slc) (d : Int) (w : World) {B : Nat} (hN : NdOk w B (begN id h d) ⟨R, V, ⟨none, 0, 0⟩, ⟨none, 0, 0⟩⟩) (ht : Tab w) :
    Calls Tryz.prog 42 #[.int .i64 id, hdV h R V, .int .i64 d] w (RetNE w B (begR id h d)) := by
  obtain ⟨zr, hzr⟩ : ∃ x, rightN (begN id h d) = x := ⟨_, rfl⟩
  have hER := fun (w : World) (h1 : NdOk w B (begN id h d) ⟨R, V, ⟨none, 0, 0⟩, ⟨none, 0, 0⟩⟩) (h2 : Tab w) => NRight_any (begN id h d) ⟨R, V, ⟨none, 0, 0⟩, ⟨none, 0, 0⟩⟩ w h1 h2
  rw [hzr] at hER
  obtain ⟨RR, hRR⟩ : ∃ x, begR id h d = x := ⟨_, rfl⟩
  have hcase : Hid ((zr = true → RR = (begN id h d, 0)) ∧ (zr = false → RR = (zeroN, 1))) := by
    rw [← hRR, ← hzr]
    unfold begR
    exact ⟨fun e => if_pos e, fun e => if_neg (by rw [e]; decide)⟩
  rw [hRR]
  unfold begN at hcase hN hER
  obtain ⟨TT, hTT⟩ : ∃ x, min (max d 0) 1048576 = x := ⟨_, rfl⟩
  rw [hTT] at hcase hN hER
  clear hzr hRR
  unfold nodeV at hER
  unfold hdV
  dsimp only at hER
  obtain ⟨w0, hw0⟩ : ∃ x, ((w.alloc (.cells (#[.int .i64 h.t, .int .i64 h.v, .int .i64 h.l.base, .int .i64 h.l.bt, .slice R.A R.n R.c, .string h.s, .slice V.A V.n V.c]) 27)).alloc (.cells (ndC zeroN nilA) 30)) = x := ⟨_, rfl⟩
  have hB : Hid (Bxs w.heap.size w0 [⟨w.heap.size + 1, 30, ndC zeroN nilA⟩, ⟨w.heap.size, 27, #[.int .i64 h.t, .int .i64 h.v, .int .i64 h.l.base, .int .i64 h.l.bt, .slice R.A R.n R.c, .string h.s, .slice V.A V.n V.c]⟩]) := by
    rw [← hw0]
    exact (((Bxs.nil w.heap.size w).add_ rfl (by omega) 27 (#[.int .i64 h.t, .int .i64 h.v, .int .i64 h.l.base, .int .i64 h.l.bt, .slice R.A R.n R.c, .string h.s, .slice V.A V.n V.c])).add_ (by simp) (by omega) 30 (ndC zeroN nilA))
  have q0 : Below w.heap.size w w0 := by rw [← hw0]; go_grown
  have z0 := q0.size
  dsimp only [ndC, msC, zeroN, nilA, zeroM, nilMA] at hw0
  refine calls_of_wpQ Tryz.func42 rfl ?_
  intro Q hQ
  simp only [Tryz.ntmps42, List.size_toArray, List.length_cons, List.length_nil, Nat.reduceAdd, Nat.reduceSub, Array.replicate_succ, Array.replicate_zero, List.push_toArray, List.append_toArray, List.nil_append, List.cons_append]
  go_upto_region 1 with fail
  try rw [hw0]
  clear hw0
  go_cut [8] from 9 (fun p8 wx => ∃ gX : Nat, p8 = .pointer (some ⟨gX, 0, none⟩) ∧ w.heap.size ≤ gX ∧ Below w.heap.size w wx ∧ Hid (Bxs w.heap.size wx [⟨gX, 30, ndC ⟨id, h, 0, 0, TT, h.l.base, [], []⟩ ⟨R, V, ⟨none, 0, 0⟩, ⟨none, 0, 0⟩⟩⟩, ⟨w.heap.size + 1, 30, ndC zeroN nilA⟩, ⟨w.heap.size, 27, #[.int .i64 h.t, .int .i64 h.v, .int .i64 h.l.base, .int .i64 h.l.bt, .slice R.A R.n R.c, .string h.s, .slice V.A V.n V.c]⟩]))
  case first =>
    refine regm (fun w' => w'.cell? ⟨w.heap.size, 0, none⟩ = some (.int .i64 h.t) ∧ w'.cell? ⟨w.heap.size, 1, none⟩ = some (.int .i64 h.v) ∧ w'.cell? ⟨w.heap.size, 2, none⟩ = some (.int .i64 h.l.base) ∧ w'.cell? ⟨w.heap.size, 3, none⟩ = some (.int .i64 h.l.bt) ∧ w'.cell? ⟨w.heap.size, 4, none⟩ = some (.slice R.A R.n R.c) ∧ w'.cell? ⟨w.heap.size, 5, none⟩ = some (.string h.s) ∧ w'.cell? ⟨w.heap.size, 6, none⟩ = some (.slice V.A V.n V.c)) 10 10 [(0, 0), (0, 0), (0, 0), (4, 4), (0, 0), (16, 16), (32, 32), (75, 75), (0, 0), (511, 384)] (by exact And.intro ((hB.out.at_ 1 rfl).cell 0) (And.intro ((hB.out.at_ 1 rfl).cell 1) (And.intro ((hB.out.at_ 1 rfl).cell 2) (And.intro ((hB.out.at_ 1 rfl).cell 3) (And.intro ((hB.out.at_ 1 rfl).cell 4) (And.intro ((hB.out.at_ 1 rfl).cell 5) ((hB.out.at_ 1 rfl).cell 6))))))) (fun hS0 hR => ?_)
    replace hB := hid_mk hB.out.drew
    have qd : Below w.heap.size w w0.drew := by go_grown
    obtain ⟨wd, hwd⟩ : ∃ x, w0.drew = x := ⟨_, rfl⟩
    rw [hwd] at hS0 hB  qd ⊢
    clear hwd q0 z0
    have zd := qd.size
    refine tkn (i := 0) hR hS0 (h := ?_)
    refine tkn (i := 1) hR hS0 (h := ?_)
    refine tkn (i := 2) hR hS0 (h := ?_)
    refine tkn (i := 4) hR hS0 (h := ?_)
    refine tkn (i := 5) hR hS0 (h := ?_)
    simp only [Act.put]
    refine tkn (i := 6) hR hS0 (h := ?_)
    refine twom (i := 3) (j := 8) hR (h := fun K hK => ?_) (h' := fun K hK => ?_)
    · go_simp
      refine (Draw_any d _).mono ?_
      rw [hTT]
      rintro e wD ⟨rfl, hwD⟩
      subst hwD
      have hS1 := And.intro ((hB.out.at_ 1 rfl).cell 0) (And.intro ((hB.out.at_ 1 rfl).cell 1) (And.intro ((hB.out.at_ 1 rfl).cell 2) (And.intro ((hB.out.at_ 1 rfl).cell 3) (And.intro ((hB.out.at_ 1 rfl).cell 4) (And.intro ((hB.out.at_ 1 rfl).cell 5) ((hB.out.at_ 1 rfl).cell 6))))))
      refine hK.out _ _ (fun _ => hS1) ?_
      clear hK K hS0
      have hS0 := hS1
      clear hS1
      refine tkn (i := 7) hR hS0 (h := ?_)
      refine onem (i := 8) hR (h := fun K hK => ?_)
      go_simp
      obtain ⟨gX, hgX⟩ : ∃ g, wd.heap.size = g := ⟨_, rfl⟩
      have lgX : w.heap.size ≤ gX := by rw [← hgX]; exact qd.size
      replace hB := hid_mk (hB.out.add_ hgX lgX 30 (ndC zeroN nilA))
      have qA := qd.alloc qd.size (.cells (ndC zeroN nilA) 30)
      obtain ⟨wA, hwA⟩ : ∃ x, wd.alloc (.cells (ndC zeroN nilA) 30) = x := ⟨_, rfl⟩
      rw [hwA] at hB  qA
      dsimp only [ndC, msC, zeroN, nilA, zeroM, nilMA] at hwA
      rw [hwA, hgX]
      clear hwA hgX
      have hS1 := And.intro ((hB.out.at_ 2 rfl).cell 0) (And.intro ((hB.out.at_ 2 rfl).cell 1) (And.intro ((hB.out.at_ 2 rfl).cell 2) (And.intro ((hB.out.at_ 2 rfl).cell 3) (And.intro ((hB.out.at_ 2 rfl).cell 4) (And.intro ((hB.out.at_ 2 rfl).cell 5) ((hB.out.at_ 2 rfl).cell 6))))))
      refine hK.out _ _ (fun _ => hS1) ?_
      clear hK K hS0
      have hS0 := hS1
      clear hS1
      have lX := blk14f (hB.out.at_ 0 rfl)
      refine onem (i := 9) hR (h := fun K hK => ?_)
      go_simp
      clear lX
      have qz := setN_below ⟨id, h, 0, 0, TT, h.l.base, [], []⟩ ⟨R, V, ⟨none, 0, 0⟩, ⟨none, 0, 0⟩⟩ qA lgX
      have hBn := hB.out.setN 0 rfl ⟨id, h, 0, 0, TT, h.l.base, [], []⟩ ⟨R, V, ⟨none, 0, 0⟩, ⟨none, 0, 0⟩⟩
      obtain ⟨wz, hwz⟩ : ∃ x, setN wA gX ⟨id, h, 0, 0, TT, h.l.base, [], []⟩ ⟨R, V, ⟨none, 0, 0⟩, ⟨none, 0, 0⟩⟩ = x := ⟨_, rfl⟩
      rw [hwz] at hBn qz
      replace hB : Hid (Bxs w.heap.size wz [⟨gX, 30, ndC ⟨id, h, 0, 0, TT, h.l.base, [], []⟩ ⟨R, V, ⟨none, 0, 0⟩, ⟨none, 0, 0⟩⟩⟩, ⟨w.heap.size + 1, 30, ndC zeroN nilA⟩, ⟨w.heap.size, 27, #[.int .i64 h.t, .int .i64 h.v, .int .i64 h.l.base, .int .i64 h.l.bt, .slice R.A R.n R.c, .string h.s, .slice V.A V.n V.c]⟩]) := hid_mk hBn
      clear hBn
      unfold setN set14 at hwz
      dsimp only at hwz
      rw [hwz]
      clear hwz
      have hS1 := And.intro ((hB.out.at_ 2 rfl).cell 0) (And.intro ((hB.out.at_ 2 rfl).cell 1) (And.intro ((hB.out.at_ 2 rfl).cell 2) (And.intro ((hB.out.at_ 2 rfl).cell 3) (And.intro ((hB.out.at_ 2 rfl).cell 4) (And.intro ((hB.out.at_ 2 rfl).cell 5) ((hB.out.at_ 2 rfl).cell 6))))))
      refine hK.out _ _ (fun _ => hS1) ?_
      clear hK K hS0
      have hS0 := hS1
      clear hS1
      refine donem hR (h := ?_)
      try simp only [Act.put]
      go_wp2_with fail
      go_meet
      exact ⟨gX, rfl, lgX, qz, hB⟩
    · go_simp
      obtain ⟨gX, hgX⟩ : ∃ g, wd.heap.size = g := ⟨_, rfl⟩
      have lgX : w.heap.size ≤ gX := by rw [← hgX]; exact qd.size
      replace hB := hid_mk (hB.out.add_ hgX lgX 30 (ndC zeroN nilA))
      have qA := qd.alloc qd.size (.cells (ndC zeroN nilA) 30)
      obtain ⟨wA, hwA⟩ : ∃ x, wd.alloc (.cells (ndC zeroN nilA) 30) = x := ⟨_, rfl⟩
      rw [hwA] at hB  qA
      dsimp only [ndC, msC, zeroN, nilA, zeroM, nilMA] at hwA
      rw [hwA, hgX]
      clear hwA hgX
      have hS1 := And.intro ((hB.out.at_ 2 rfl).cell 0) (And.intro ((hB.out.at_ 2 rfl).cell 1) (And.intro ((hB.out.at_ 2 rfl).cell 2) (And.intro ((hB.out.at_ 2 rfl).cell 3) (And.intro ((hB.out.at_ 2 rfl).cell 4) (And.intro ((hB.out.at_ 2 rfl).cell 5) ((hB.out.at_ 2 rfl).cell 6))))))
      refine hK.out _ _ (fun _ => hS1) ?_
      clear hK K hS0
      have hS0 := hS1
      clear hS1
      refine onem (i := 3) hR (h := fun K hK => ?_)
      go_simp
      refine (Draw_any d _).mono ?_
      rw [hTT]
      rintro e wD ⟨rfl, hwD⟩
      subst hwD
      have hS1 := And.intro ((hB.out.at_ 2 rfl).cell 0) (And.intro ((hB.out.at_ 2 rfl).cell 1) (And.intro ((hB.out.at_ 2 rfl).cell 2) (And.intro ((hB.out.at_ 2 rfl).cell 3) (And.intro ((hB.out.at_ 2 rfl).cell 4) (And.intro ((hB.out.at_ 2 rfl).cell 5) ((hB.out.at_ 2 rfl).cell 6))))))
      refine hK.out _ _ (fun _ => hS1) ?_
      clear hK K hS0
      have hS0 := hS1
      clear hS1
      refine tkn (i := 7) hR hS0 (h := ?_)
      have lX := blk14f (hB.out.at_ 0 rfl)
      refine onem (i := 9) hR (h := fun K hK => ?_)
      go_simp
      clear lX
      have qz := setN_below ⟨id, h, 0, 0, TT, h.l.base, [], []⟩ ⟨R, V, ⟨none, 0, 0⟩, ⟨none, 0, 0⟩⟩ qA lgX
      have hBn := hB.out.setN 0 rfl ⟨id, h, 0, 0, TT, h.l.base, [], []⟩ ⟨R, V, ⟨none, 0, 0⟩, ⟨none, 0, 0⟩⟩
      obtain ⟨wz, hwz⟩ : ∃ x, setN wA gX ⟨id, h, 0, 0, TT, h.l.base, [], []⟩ ⟨R, V, ⟨none, 0, 0⟩, ⟨none, 0, 0⟩⟩ = x := ⟨_, rfl⟩
      rw [hwz] at hBn qz
      replace hB : Hid (Bxs w.heap.size wz [⟨gX, 30, ndC ⟨id, h, 0, 0, TT, h.l.base, [], []⟩ ⟨R, V, ⟨none, 0, 0⟩, ⟨none, 0, 0⟩⟩⟩, ⟨w.heap.size + 1, 30, ndC zeroN nilA⟩, ⟨w.heap.size, 27, #[.int .i64 h.t, .int .i64 h.v, .int .i64 h.l.base, .int .i64 h.l.bt, .slice R.A R.n R.c, .string h.s, .slice V.A V.n V.c]⟩]) := hid_mk hBn
      clear hBn
      unfold setN set14 at hwz
      dsimp only at hwz
      rw [hwz]
      clear hwz
      have hS1 := And.intro ((hB.out.at_ 2 rfl).cell 0) (And.intro ((hB.out.at_ 2 rfl).cell 1) (And.intro ((hB.out.at_ 2 rfl).cell 2) (And.intro ((hB.out.at_ 2 rfl).cell 3) (And.intro ((hB.out.at_ 2 rfl).cell 4) (And.intro ((hB.out.at_ 2 rfl).cell 5) ((hB.out.at_ 2 rfl).cell 6))))))
      refine hK.out _ _ (fun _ => hS1) ?_
      clear hK K hS0
      have hS0 := hS1
      clear hS1
      refine donem hR (h := ?_)
      try simp only [Act.put]
      go_wp2_with fail
      go_meet
      exact ⟨gX, rfl, lgX, qz, hB⟩
  case rest =>
    clear hB q0
    obtain ⟨gX, rfl, lgX, q5, hB⟩ := hcut
    obtain ⟨w5, hwc⟩ : ∃ x, x = wc := ⟨wc, rfl⟩
    subst hwc
    have z5 := q5.size
    replace hTT := hid_mk hTT
    have lX := blk14c (hB.out.at_ 0 rfl)
    go_wp2_with fail
    clear lX
    refine (hER _ (hN.to q5) (ht.to q5)).mono ?_
    rintro e w6 ⟨rfl, hb1⟩
    have q6 := (after (w := w) hb1 q5).1
    have z6 := q6.size
    replace hB := hid_mk (hB.out.keep hb1)
    clear hb1 q5 z5
    cases zr
    case false =>
      have lX := blk14f (hB.out.at_ 0 rfl)
      have lY := blk14f (hB.out.at_ 1 rfl)
      go_wp2
      clear lX lY
      have hfin := hid_mk (hcase.out.2 (by first | rfl | trivial))
      have kf := setN_blk (N := zeroN) (a := nilA) (hB.out.at_ 1 rfl)
      have qz := setN_below zeroN nilA q6 (by omega : w.heap.size ≤ w.heap.size + 1)
      unfold setN set14 zeroN nilA at kf qz
      have rs := blk14c kf
      refine ends_ret hQ (v := .tuple #[.agg (ndC zeroN nilA), .int .i64 1]) (by simp [results, Tryz.results42, go_sem, rs, ndC, zeroN, nilA]) rfl ?_
      exact ⟨nilA, by rw [hfin.out]; rfl, by rw [hfin.out]; exact zero_ok, qz⟩
    have lX := blk14f (hB.out.at_ 0 rfl)
    have lY := blk14f (hB.out.at_ 1 rfl)
    go_wp2
    clear lX lY
    have hfin := hid_mk (hcase.out.1 (by first | rfl | trivial))
    have kf := setN_blk (N := ⟨id, h, 0, 0, TT, h.l.base, [], []⟩) (a := ⟨R, V, ⟨none, 0, 0⟩, ⟨none, 0, 0⟩⟩) (hB.out.at_ 1 rfl)
    have qz := setN_below ⟨id, h, 0, 0, TT, h.l.base, [], []⟩ ⟨R, V, ⟨none, 0, 0⟩, ⟨none, 0, 0⟩⟩ q6 (by omega : w.heap.size ≤ w.heap.size + 1)
    unfold setN set14 at kf qz
    have rs := blk14c kf
    refine ends_ret hQ (v := .tuple #[.agg (ndC ⟨id, h, 0, 0, TT, h.l.base, [], []⟩ ⟨R, V, ⟨none, 0, 0⟩, ⟨none, 0, 0⟩⟩), .int .i64 0]) (by simp [results, Tryz.results42, go_sem, rs, ndC]) rfl ?_
    exact ⟨⟨R, V, ⟨none, 0, 0⟩, ⟨none, 0, 0⟩⟩, by rw [hfin.out]; rfl, by rw [hfin.out]; exact hN.to qz, qz⟩
end Go.Proofs.YtncdjmpdbinanaaGreatDoor
