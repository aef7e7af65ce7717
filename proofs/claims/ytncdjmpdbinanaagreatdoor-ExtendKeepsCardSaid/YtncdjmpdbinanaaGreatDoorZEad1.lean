/-
  WHAT IS PROVED HERE: what extend.Add hands back of any node, kind and text. (Where it refuses, or what is added is no voters.) Conditions: the slices are of at most 2^47 bytes; the library's table and MaxLen stand.
-/
import Derived.Test.YtncdjmpdbinanaaGreatDoorZGEad
import Derived.Test.YtncdjmpdbinanaaGreatDoorZGNd
import Derived.Test.YtncdjmpdbinanaaGreatDoorZGEl1
import Derived.Test.YtncdjmpdbinanaaGreatDoorZEsr
import Derived.Test.YtncdjmpdbinanaaGreatDoorZGSd
import Derived.Test.YtncdjmpdbinanaaGreatDoorZGPsr
import Derived.Test.YtncdjmpdbinanaaGreatDoorZEwi
import Derived.Deep.DeepCutAuto
namespace Go.Proofs.YtncdjmpdbinanaaGreatDoor
open Go.RowKit

set_option maxRecDepth 100000 in
theorem AnsA_any (er : Int) (w : World) : Calls Tryz.prog 82 #[.int .i64 er] w fun e w' => e = .returned (.tuple #[nodeV zeroN nilA, .slice none 0 0, .int .i64 0, .int .i64 er]) ∧ Below w.heap.size w w' := by
  obtain ⟨w0, hw0⟩ : ∃ x, (w.alloc (.cells (ndC zeroN nilA) 30)) = x := ⟨_, rfl⟩
  have hB : Hid (Bxs w.heap.size w0 [⟨w.heap.size, 30, ndC zeroN nilA⟩]) := by
    rw [← hw0]
    exact ((Bxs.nil w.heap.size w).add_ rfl (by omega) 30 (ndC zeroN nilA))
  have q0 : Below w.heap.size w w0 := by rw [← hw0]; go_grown
  dsimp only [ndC, zeroN, nilA] at hw0
  refine calls_of_wpQ Tryz.func82 rfl ?_
  intro Q hQ
  simp only [Tryz.ntmps82, List.size_toArray, List.length_cons, List.length_nil, Nat.reduceAdd, Nat.reduceSub, Array.replicate_succ, Array.replicate_zero, List.push_toArray, List.append_toArray, List.nil_append, List.cons_append]
  go_upto_region 1 with fail
  try rw [hw0]
  clear hw0
  have lY := blk14f (hB.out.at_ 0 rfl)
  go_wp2
  clear lY
  have kf := setN_blk (N := zeroN) (a := nilA) (hB.out.at_ 0 rfl)
  have qz := setN_below zeroN nilA q0 (Nat.le_refl _)
  unfold setN set14 zeroN nilA at kf qz
  have rs := blk14c kf
  refine ends_ret hQ (v := .tuple #[.agg (ndC zeroN nilA), .slice none 0 0, .int .i64 0, .int .i64 er]) (by simp [results, Tryz.results82, go_sem, rs, ndC, zeroN, nilA]) rfl ?_
  exact ⟨rfl, qz⟩
set_option maxRecDepth 100000 in
set_option maxHeartbeats 12800000 in
theorem EAdd1_any (N : Nd) (a : NdA) (k : Int) (d : ByteArray) (w : World) {B : Nat} (_hBw : B ≤ w.heap.size) (hN : NdOk w B N a) (ht : Tab w) (mm : Int) (hm : w.cell? ⟨0, 0, none⟩ = some (.int .i64 mm)) (hK : addOk N k d = false) :
    Calls Tryz.prog 29 #[nodeV N a, .int .i64 k, .string d] w (RetAd w B (addN N k d) (addL N k d) (addAt N k d) (addE N k d)) := by
  have hm2 : Hid (∀ w', Below w.heap.size w w' → w'.cell? ⟨0, 0, none⟩ = some (.int .i64 mm)) := fun w' hb => (hb.cell (p := ⟨0, 0, none⟩) (cell_lt hm)).trans hm
  clear hm
  obtain ⟨zr, hzr⟩ : ∃ x, rightN N = x := ⟨_, rfl⟩
  obtain ⟨zg, hzg⟩ : ∃ x, addG N k d = x := ⟨_, rfl⟩
  obtain ⟨zc, hzc⟩ : ∃ x, confC N d = x := ⟨_, rfl⟩
  obtain ⟨zh, hzh⟩ : ∃ x, rightH (withH N.h ⟨N.h.t, k, d⟩) = x := ⟨_, rfl⟩
  obtain ⟨la, hla⟩ : ∃ x, lastJ N.h.l = x := ⟨_, rfl⟩
  have hG : Hid (zg = (zr && (decide (0 ≤ k) && (decide (k ≤ 2) && decide (d.size ≤ 8192))))) := by rw [Hid, ← hzg, ← hzr]; rfl
  have hS := add_say N k d
  unfold addOk at hS
  rw [hzg, hzc, hzh] at hS
  obtain ⟨hs1, hs2, hs3, hs4, hs5⟩ := hS
  replace hs1 := hid_mk hs1
  replace hs2 := hid_mk hs2
  replace hs3 := hid_mk hs3
  replace hs4 := hid_mk hs4
  replace hs5 := hid_mk hs5
  have hrr : Hid (zr = true → rightN N = true) := fun e => hzr.trans e
  have hcf : Hid (zr = true → N.role = 2 → zc = ((parseQ d.data.toList).isSome && (nextL (votersN N) ((parseQ d.data.toList).getD []) && (inL N.id ((parseQ d.data.toList).getD []) && (decide (saidN N ≤ N.commit) && ((termAtJ N.h.l N.commit).getD 0 == N.h.t)))))) := fun e e2 => by
    rw [← hzc]
    exact add_conf (hzr.trans e) e2
  unfold addOk at hK
  rw [hzg, hzc] at hK
  replace hK := hid_mk hK
  have hER := fun (w : World) (h : NdOk w B N a) (h2 : Tab w) => ERight_any N a w h h2
  rw [hzr] at hER
  have hEW := fun (w : World) (h0 : B ≤ w.heap.size) (h : NdOk w B N a) (hj : rightJ N.h.l = true) (h2 : Tab w) => EWith_any N a ⟨N.h.t, k, d⟩ w h0 h hj h2
  rw [hzh] at hEW
  have hnb := nd_rn hN
  replace hzr := hid_mk hzr
  replace hzg := hid_mk hzg
  replace hzc := hid_mk hzc
  replace hzh := hid_mk hzh
  replace hla := hid_mk hla
  unfold nodeV at hER hEW ⊢
  unfold recVal at hEW
  dsimp only at hER hEW ⊢
  obtain ⟨w0, hw0⟩ : ∃ x, ((w.alloc (.cells (ndC N a) 30)).alloc (.cells (ndC zeroN nilA) 30)) = x := ⟨_, rfl⟩
  have hB : Hid (Bxs w.heap.size w0 [⟨w.heap.size + 1, 30, ndC zeroN nilA⟩, ⟨w.heap.size, 30, ndC N a⟩]) := by
    rw [← hw0]
    exact (((Bxs.nil w.heap.size w).add_ rfl (by omega) 30 (ndC N a)).add_ (by simp) (by omega) 30 (ndC zeroN nilA))
  have q0 : Below w.heap.size w w0 := by rw [← hw0]; go_grown
  have z0 := q0.size
  dsimp only [ndC, msC, zeroN, nilA, zeroM, nilMA] at hw0
  refine calls_of_wpQ Tryz.func29 rfl ?_
  intro Q hQ
  simp only [Tryz.ntmps29, List.size_toArray, List.length_cons, List.length_nil, Nat.reduceAdd, Nat.reduceSub, Array.replicate_succ, Array.replicate_zero, List.push_toArray, List.append_toArray, List.nil_append, List.cons_append]
  go_upto_region 2 with fail
  try rw [hw0]
  clear hw0
  go_cut [19] from 20 (fun p19 wx => ∃ g : Bool, p19 = .bool g ∧ Below w.heap.size w wx ∧ Hid (Bxs w.heap.size wx [⟨w.heap.size + 1, 30, ndC zeroN nilA⟩, ⟨w.heap.size, 30, ndC N a⟩]) ∧ Hid (zg = !g))
  case first =>
    have lX := blk14c (hB.out.at_ 1 rfl)
    go_wp2_with fail
    clear lX
    refine (hER _ (hN.to q0) (ht.to q0)).mono ?_
    rintro e w1 ⟨rfl, hb1⟩
    have q1 := (after (w := w) hb1 q0).1
    have z1 := q1.size
    replace hB := hid_mk (hB.out.keep hb1)
    clear hb1 q0 z0
    cases zr
    case false =>
      skip
      go_wp2_with fail
      go_meet
      exact ⟨true, rfl, q1, hB, by rw [hG.out]; rfl⟩
    by_cases c1 : k < 0
    case pos =>
      have c1b : decide (k < 0) = true := by simpa using c1
      go_wp2_with fail
      go_meet
      exact ⟨true, rfl, q1, hB, by rw [hG.out, show decide (0 ≤ k) = false by simpa using c1]; rfl⟩
    have c1b : decide (k < 0) = false := by simpa using c1
    by_cases c2 : 2 < k
    case pos =>
      have c2b : decide (2 < k) = true := by simpa using c2
      go_wp2_with fail
      go_meet
      exact ⟨true, rfl, q1, hB, by rw [Hid, hG.out, show decide (k ≤ 2) = false by simpa using c2]; simp⟩
    have c2b : decide (2 < k) = false := by simpa using c2
    by_cases c3 : 8192 < d.size
    case pos =>
      have c3b : decide ((8192 : Int) < (d.size : Int)) = true := by rw [decide_eq_true_eq]; omega
      go_wp2_with fail
      go_meet
      exact ⟨true, rfl, q1, hB, by rw [Hid, hG.out, show decide (d.size ≤ 8192) = false by simpa using c3]; simp⟩
    have c3b : decide ((8192 : Int) < (d.size : Int)) = false := by rw [decide_eq_false_iff_not]; omega
    go_wp2_with fail
    go_meet
    exact ⟨false, rfl, q1, hB, by rw [hG.out, show decide (0 ≤ k) = true by simpa using c1, show decide (k ≤ 2) = true by simpa using c2, show decide (d.size ≤ 8192) = true by simpa using c3]; rfl⟩
  case rest =>
    clear hB q0 z0 hER
    obtain ⟨g, rfl, q2, hB, hg⟩ := hcut
    obtain ⟨w2, hwc⟩ : ∃ x, x = wc := ⟨wc, rfl⟩
    subst hwc
    have z2 := q2.size
    cases g
    case true =>
      have hno := hid_mk (add_bad (hs1.out hg.out) (by decide))
      have lY := blk14f (hB.out.at_ 0 rfl)
      go_wp2_with fail
      clear lY
      refine (AnsA_any 1 _).mono ?_
      rintro e w3 ⟨rfl, hb1⟩
      have q3 := (after (w := w) hb1 q2).1
      have z3 := q3.size
      replace hB := hid_mk (hB.out.keep hb1)
      clear hb1 q2 z2
      unfold nodeV
      have lY := blk14f (hB.out.at_ 0 rfl)
      go_wp2
      clear lY
      have kf := setN_blk (N := zeroN) (a := nilA) (hB.out.at_ 0 rfl)
      have qz := setN_below zeroN nilA q3 (by omega : w.heap.size ≤ w.heap.size + 1)
      unfold setN set14 zeroN nilA at kf qz
      have rs := blk14c kf
      refine ends_ret hQ (v := .tuple #[.agg (ndC zeroN nilA), .slice none 0 0, .int .i64 0, .int .i64 1]) (by simp [results, Tryz.results29, go_sem, rs, ndC, zeroN, nilA]) rfl ?_
      exact ⟨nilA, none, 0, 0, [], by rw [hno.out.1, hno.out.2.2.1, hno.out.2.2.2]; rfl, by rw [hno.out.1]; exact zero_ok, mgs_nil, by rw [hno.out.2.1]; rfl, Nat.le_refl _, qz⟩
    replace hg := hid_mk (show zg = true from hg.out)
    have hzr1 : Hid (zr = true) := by
      have h := hG.out
      rw [hg.out] at h
      cases zr
      · cases h
      · rfl
    have hR : Hid (rightN N = true) := hrr.out hzr1.out
    have hj : Hid (rightJ N.h.l = true) := (right_n hR.out).1
    clear hG hrr
    have lX := blk14f (hB.out.at_ 1 rfl)
    go_upto_if 42 with fail
    clear lX
    by_cases g2 : N.role = 2
    case neg =>
      have g2b : (N.role != 2) = true := by simpa using g2
      have hno := hid_mk (add_bad (hs2.out hg.out g2) (by decide))
      have lY := blk14f (hB.out.at_ 0 rfl)
      go_wp2_with fail
      clear lY
      refine (AnsA_any 171 _).mono ?_
      rintro e w3 ⟨rfl, hb1⟩
      have q3 := (after (w := w) hb1 q2).1
      have z3 := q3.size
      replace hB := hid_mk (hB.out.keep hb1)
      clear hb1 q2 z2
      unfold nodeV
      have lY := blk14f (hB.out.at_ 0 rfl)
      go_wp2
      clear lY
      have kf := setN_blk (N := zeroN) (a := nilA) (hB.out.at_ 0 rfl)
      have qz := setN_below zeroN nilA q3 (by omega : w.heap.size ≤ w.heap.size + 1)
      unfold setN set14 zeroN nilA at kf qz
      have rs := blk14c kf
      refine ends_ret hQ (v := .tuple #[.agg (ndC zeroN nilA), .slice none 0 0, .int .i64 0, .int .i64 171]) (by simp [results, Tryz.results29, go_sem, rs, ndC, zeroN, nilA]) rfl ?_
      exact ⟨nilA, none, 0, 0, [], by rw [hno.out.1, hno.out.2.2.1, hno.out.2.2.2]; rfl, by rw [hno.out.1]; exact zero_ok, mgs_nil, by rw [hno.out.2.1]; rfl, Nat.le_refl _, qz⟩
    have g2b : (N.role != 2) = false := by simpa using g2
    replace g2 := hid_mk g2
    by_cases kk : k = 2
    case neg =>
      have h := hK.out
      rw [hg.out, show (N.role == 2) = true by simpa using g2.out, show (k == 2) = false by simpa using kk] at h
      cases h
    have kb : (k == 2) = true := by simpa using kk
    have hcf2 := hcf.out hzr1.out g2.out
    obtain ⟨PO, hPO⟩ : ∃ x, parseQ d.data.toList = x := ⟨_, rfl⟩
    rw [hPO] at hcf2
    obtain ⟨ps, hps⟩ : ∃ x, PO.isSome = x := ⟨_, rfl⟩
    obtain ⟨PV, hPV⟩ : ∃ x, PO.getD [] = x := ⟨_, rfl⟩
    have hPA := fun (w : World) (h : w.cell? ⟨0, 0, none⟩ = some (.int .i64 mm)) => Parse_any d w mm h
    rw [hPO] at hPA
    unfold RetQ at hPA
    rw [hps, hPV] at hcf2 hPA
    obtain ⟨er, her⟩ : ∃ x, (if ps = true then (0 : Int) else 160) = x := ⟨_, rfl⟩
    rw [her] at hPA
    replace her := hid_mk her
    have hOF := fun (w : World) (h : NdOk w B N a) (h2 : w.cell? ⟨0, 0, none⟩ = some (.int .i64 mm)) => Of_anyC N.h.t N.h.v N.h.l a.R.A a.R.n a.R.c N.h.s a.V.A a.V.n a.V.c N.h.vs w B B mm h2 (by omega) (by omega) h.recs h.vs
    have hvo : ofF N.h.l.base 0 (N.h.vs, N.h.l.base) N.h.l.rs = (votersN N, saidN N) := rfl
    rw [hvo] at hOF
    unfold RetOfC hardV at hOF
    dsimp only at hOF
    obtain ⟨VN, hVN⟩ : ∃ x, votersN N = x := ⟨_, rfl⟩
    obtain ⟨sd, hsd⟩ : ∃ x, saidN N = x := ⟨_, rfl⟩
    rw [hVN, hsd] at hcf2 hOF
    have hTA := fun (w : World) (h : NdOk w B N a) => TermAt_any N.h.l N.commit a.R.A a.R.n a.R.c w (by omega) h.recs
    unfold logV at hTA
    obtain ⟨tv, htv⟩ : ∃ x, (termAtJ N.h.l N.commit).getD 0 = x := ⟨_, rfl⟩
    rw [htv] at hcf2 hTA
    replace hcf2 := hid_mk hcf2
    replace kk := hid_mk kk
    replace hPO := hid_mk hPO
    replace hps := hid_mk hps
    replace hPV := hid_mk hPV
    replace hVN := hid_mk hVN
    replace hsd := hid_mk hsd
    replace htv := hid_mk htv
    clear hvo hcf
    have lX := blk14c (hB.out.at_ 1 rfl)
    go_wp2_with fail
    clear lX
    refine (hPA _ (hm2.out _ q2)).mono ?_
    rintro e w3 ⟨PA, pn, pc, rfl, hvI, hpc, hpn, hb1⟩
    have q3 := (after (w := w) hb1 q2).1
    have z3 := q3.size
    replace hB := hid_mk (hB.out.keep hb1)
    clear hb1 q2 z2
    replace hvI := hid_mk hvI
    have lX := blk14c (hB.out.at_ 1 rfl)
    go_wp2_with fail
    clear lX
    refine (hOF _ (hN.to q3) (hm2.out _ q3)).mono ?_
    rintro e w4 ⟨OA, on, oc, rfl, hoI, hon, _, hb1⟩
    have q4 := (after (w := w) hb1 q3).1
    have z4 := q4.size
    replace hB := hid_mk (hB.out.keep hb1)
    replace hvI := hid_mk (hvI.out.to hb1)
    clear hb1 q3 z3
    replace hoI := hid_mk hoI
    have lX := blk14c (hB.out.at_ 1 rfl)
    go_wp2_with fail
    clear lX
    refine (hTA _ (hN.to q4)).mono ?_
    rintro e w5 ⟨rfl, hb1⟩
    have q5 := (after (w := w) hb1 q4).1
    have z5 := q5.size
    replace hB := hid_mk (hB.out.keep hb1)
    replace hvI := hid_mk (hvI.out.to hb1)
    replace hoI := hid_mk (hoI.out.to hb1)
    clear hb1 q4 z4
    clear hPA hOF hTA
    have lX := blk14f (hB.out.at_ 1 rfl)
    go_upto_region 11 with fail
    clear lX
    go_cut [101] from 74 (fun p101 wx => ∃ g : Bool, p101 = .bool g ∧ Below w.heap.size w wx ∧ Hid (Bxs w.heap.size wx [⟨w.heap.size + 1, 30, ndC zeroN nilA⟩, ⟨w.heap.size, 30, ndC N a⟩]) ∧ Hid (Ints wx 0 PA pn PV) ∧ Hid (zc = !g))
    case first =>
      cases ps
      case false =>
        have e9 : er = 160 := her.out.symm
        subst e9
        have lX := blk14f (hB.out.at_ 1 rfl)
        go_wp2_with fail
        go_meet
        clear lX
        exact ⟨true, rfl, q5, hB, hvI, by rw [hcf2.out]; rfl⟩
      have e9 : er = 0 := her.out.symm
      subst e9
      clear her
      have hNX := fun (w : World) (h1 : Ints w 0 OA on VN) (h2 : Ints w 0 PA pn PV) => Next_any OA on oc VN PA pn pc PV w 0 (by omega) (by omega) h1 h2
      have hne := next_eq VN PV
      rw [hoI.out.len, hvI.out.len] at hne
      rw [hne] at hNX
      obtain ⟨zn, hzn⟩ : ∃ x, nextL VN PV = x := ⟨_, rfl⟩
      rw [hzn] at hNX hcf2
      replace hzn := hid_mk hzn
      clear hne
      have lX := blk14c (hB.out.at_ 1 rfl)
      go_wp2_with fail
      clear lX
      refine (hNX _ hoI.out hvI.out).mono ?_
      rintro e w6 ⟨rfl, hb1⟩
      have q6 := (after (w := w) hb1 q5).1
      have z6 := q6.size
      replace hB := hid_mk (hB.out.keep hb1)
      replace hvI := hid_mk (hvI.out.to hb1)
      replace hoI := hid_mk (hoI.out.to hb1)
      clear hb1 q5 z5
      clear hNX
      cases zn
      case false =>
        have lX := blk14f (hB.out.at_ 1 rfl)
        go_wp2_with fail
        go_meet
        clear lX
        exact ⟨true, rfl, q6, hB, hvI, by rw [hcf2.out]; rfl⟩
      have hCT := fun (w : World) (h2 : Ints w 0 PA pn PV) => Contains_any PA pn pc PV N.id w 0 (by omega) h2
      obtain ⟨zi, hzi⟩ : ∃ x, inL N.id PV = x := ⟨_, rfl⟩
      rw [hzi] at hCT hcf2
      replace hzi := hid_mk hzi
      have lX := blk14c (hB.out.at_ 1 rfl)
      go_wp2_with fail
      clear lX
      refine (hCT _ hvI.out).mono ?_
      rintro e wq ⟨rfl, rfl⟩
      clear hCT
      cases zi
      case false =>
        have lX := blk14f (hB.out.at_ 1 rfl)
        go_wp2_with fail
        go_meet
        clear lX
        exact ⟨true, rfl, q6, hB, hvI, by rw [hcf2.out]; rfl⟩
      by_cases s1 : N.commit < sd
      case pos =>
        have s1b : decide (N.commit < sd) = true := by simpa using s1
        have lX := blk14f (hB.out.at_ 1 rfl)
        go_wp2_with fail
        go_meet
        clear lX
        exact ⟨true, rfl, q6, hB, hvI, by rw [hcf2.out, show decide (sd ≤ N.commit) = false by simpa using s1]; rfl⟩
      have s1b : decide (N.commit < sd) = false := by simpa using s1
      by_cases s2 : tv = N.h.t
      case neg =>
        have s2b : (tv == N.h.t) = false := by simpa using s2
        have s2c : (tv != N.h.t) = true := by simpa using s2
        replace s2 := hid_mk s2
        have lX := blk14f (hB.out.at_ 1 rfl)
        go_wp2_with fail
        go_meet
        clear lX
        exact ⟨true, rfl, q6, hB, hvI, by rw [Hid, hcf2.out, s2b]; simp⟩
      have s2b : (tv == N.h.t) = true := by simpa using s2
      have s2c : (tv != N.h.t) = false := by simpa using s2
      replace s2 := hid_mk s2
      have lX := blk14f (hB.out.at_ 1 rfl)
      go_wp2_with fail
      go_meet
      clear lX
      exact ⟨false, rfl, q6, hB, hvI, by rw [hcf2.out, s2b, show decide (sd ≤ N.commit) = true by simpa using s1]; rfl⟩
    case rest =>
      clear hB q5 z5 hvI hoI hcf2
      obtain ⟨g, rfl, q30, hB, hvI, hg3⟩ := hcut
      obtain ⟨w30, hwc⟩ : ∃ x, x = wc := ⟨wc, rfl⟩
      subst hwc
      have z30 := q30.size
      cases g
      case true =>
        have hno := hid_mk (add_bad (hs3.out hg.out g2.out kk.out hg3.out) (by decide))
        have lY := blk14f (hB.out.at_ 0 rfl)
        go_wp2_with fail
        clear lY
        refine (AnsA_any 160 _).mono ?_
        rintro e w31 ⟨rfl, hb1⟩
        have q31 := (after (w := w) hb1 q30).1
        have z31 := q31.size
        replace hB := hid_mk (hB.out.keep hb1)
        replace hvI := hid_mk (hvI.out.to hb1)
        clear hb1 q30 z30
        unfold nodeV
        have lY := blk14f (hB.out.at_ 0 rfl)
        go_wp2
        clear lY
        have kf := setN_blk (N := zeroN) (a := nilA) (hB.out.at_ 0 rfl)
        have qz := setN_below zeroN nilA q31 (by omega : w.heap.size ≤ w.heap.size + 1)
        unfold setN set14 zeroN nilA at kf qz
        have rs := blk14c kf
        refine ends_ret hQ (v := .tuple #[.agg (ndC zeroN nilA), .slice none 0 0, .int .i64 0, .int .i64 160]) (by simp [results, Tryz.results29, go_sem, rs, ndC, zeroN, nilA]) rfl ?_
        exact ⟨nilA, none, 0, 0, [], by rw [hno.out.1, hno.out.2.2.1, hno.out.2.2.2]; rfl, by rw [hno.out.1]; exact zero_ok, mgs_nil, by rw [hno.out.2.1]; rfl, Nat.le_refl _, qz⟩
      have h := hK.out
      rw [hg3.out, hg.out, show (N.role == 2) = true by simpa using g2.out] at h
      rw [show (k == 2) = true by simpa using kk.out] at h
      cases h
set_option maxRecDepth 100000 in
set_option maxHeartbeats 12800000 in
theorem EAdd2_any (N : Nd) (a : NdA) (k : Int) (d : ByteArray) (w : World) {B : Nat} (hBw : B ≤ w.heap.size) (hN : NdOk w B N a) (ht : Tab w) (mm : Int) (hm : w.cell? ⟨0, 0, none⟩ = some (.int .i64 mm)) (hK : addOk N k d = true) (hk2 : ¬ k = 2) :
    Calls Tryz.prog 29 #[nodeV N a, .int .i64 k, .string d] w (RetAd w B (addN N k d) (addL N k d) (addAt N k d) (addE N k d)) := by
  have hm2 : Hid (∀ w', Below w.heap.size w w' → w'.cell? ⟨0, 0, none⟩ = some (.int .i64 mm)) := fun w' hb => (hb.cell (p := ⟨0, 0, none⟩) (cell_lt hm)).trans hm
  clear hm
  obtain ⟨zr, hzr⟩ : ∃ x, rightN N = x := ⟨_, rfl⟩
  obtain ⟨zg, hzg⟩ : ∃ x, addG N k d = x := ⟨_, rfl⟩
  obtain ⟨zc, hzc⟩ : ∃ x, confC N d = x := ⟨_, rfl⟩
  obtain ⟨zh, hzh⟩ : ∃ x, rightH (withH N.h ⟨N.h.t, k, d⟩) = x := ⟨_, rfl⟩
  obtain ⟨la, hla⟩ : ∃ x, lastJ N.h.l = x := ⟨_, rfl⟩
  have hG : Hid (zg = (zr && (decide (0 ≤ k) && (decide (k ≤ 2) && decide (d.size ≤ 8192))))) := by rw [Hid, ← hzg, ← hzr]; rfl
  have hS := add_say N k d
  unfold addOk at hS
  rw [hzg, hzc, hzh] at hS
  obtain ⟨hs1, hs2, hs3, hs4, hs5⟩ := hS
  replace hs1 := hid_mk hs1
  replace hs2 := hid_mk hs2
  replace hs3 := hid_mk hs3
  replace hs4 := hid_mk hs4
  replace hs5 := hid_mk hs5
  have hrr : Hid (zr = true → rightN N = true) := fun e => hzr.trans e
  have hcf : Hid (zr = true → N.role = 2 → zc = ((parseQ d.data.toList).isSome && (nextL (votersN N) ((parseQ d.data.toList).getD []) && (inL N.id ((parseQ d.data.toList).getD []) && (decide (saidN N ≤ N.commit) && ((termAtJ N.h.l N.commit).getD 0 == N.h.t)))))) := fun e e2 => by
    rw [← hzc]
    exact add_conf (hzr.trans e) e2
  unfold addOk at hK
  rw [hzg, hzc] at hK
  replace hK := hid_mk hK
  replace hk2 := hid_mk hk2
  have hER := fun (w : World) (h : NdOk w B N a) (h2 : Tab w) => ERight_any N a w h h2
  rw [hzr] at hER
  have hEW := fun (w : World) (h0 : B ≤ w.heap.size) (h : NdOk w B N a) (hj : rightJ N.h.l = true) (h2 : Tab w) => EWith_any N a ⟨N.h.t, k, d⟩ w h0 h hj h2
  rw [hzh] at hEW
  have hnb := nd_rn hN
  replace hzr := hid_mk hzr
  replace hzg := hid_mk hzg
  replace hzc := hid_mk hzc
  replace hzh := hid_mk hzh
  replace hla := hid_mk hla
  unfold nodeV at hER hEW ⊢
  unfold recVal at hEW
  dsimp only at hER hEW ⊢
  obtain ⟨w0, hw0⟩ : ∃ x, ((w.alloc (.cells (ndC N a) 30)).alloc (.cells (ndC zeroN nilA) 30)) = x := ⟨_, rfl⟩
  have hB : Hid (Bxs w.heap.size w0 [⟨w.heap.size + 1, 30, ndC zeroN nilA⟩, ⟨w.heap.size, 30, ndC N a⟩]) := by
    rw [← hw0]
    exact (((Bxs.nil w.heap.size w).add_ rfl (by omega) 30 (ndC N a)).add_ (by simp) (by omega) 30 (ndC zeroN nilA))
  have q0 : Below w.heap.size w w0 := by rw [← hw0]; go_grown
  have z0 := q0.size
  dsimp only [ndC, msC, zeroN, nilA, zeroM, nilMA] at hw0
  refine calls_of_wpQ Tryz.func29 rfl ?_
  intro Q hQ
  simp only [Tryz.ntmps29, List.size_toArray, List.length_cons, List.length_nil, Nat.reduceAdd, Nat.reduceSub, Array.replicate_succ, Array.replicate_zero, List.push_toArray, List.append_toArray, List.nil_append, List.cons_append]
  go_upto_region 2 with fail
  try rw [hw0]
  clear hw0
  go_cut [19] from 20 (fun p19 wx => ∃ g : Bool, p19 = .bool g ∧ Below w.heap.size w wx ∧ Hid (Bxs w.heap.size wx [⟨w.heap.size + 1, 30, ndC zeroN nilA⟩, ⟨w.heap.size, 30, ndC N a⟩]) ∧ Hid (zg = !g))
  case first =>
    have lX := blk14c (hB.out.at_ 1 rfl)
    go_wp2_with fail
    clear lX
    refine (hER _ (hN.to q0) (ht.to q0)).mono ?_
    rintro e w1 ⟨rfl, hb1⟩
    have q1 := (after (w := w) hb1 q0).1
    have z1 := q1.size
    replace hB := hid_mk (hB.out.keep hb1)
    clear hb1 q0 z0
    cases zr
    case false =>
      skip
      go_wp2_with fail
      go_meet
      exact ⟨true, rfl, q1, hB, by rw [hG.out]; rfl⟩
    by_cases c1 : k < 0
    case pos =>
      have c1b : decide (k < 0) = true := by simpa using c1
      go_wp2_with fail
      go_meet
      exact ⟨true, rfl, q1, hB, by rw [hG.out, show decide (0 ≤ k) = false by simpa using c1]; rfl⟩
    have c1b : decide (k < 0) = false := by simpa using c1
    by_cases c2 : 2 < k
    case pos =>
      have c2b : decide (2 < k) = true := by simpa using c2
      go_wp2_with fail
      go_meet
      exact ⟨true, rfl, q1, hB, by rw [Hid, hG.out, show decide (k ≤ 2) = false by simpa using c2]; simp⟩
    have c2b : decide (2 < k) = false := by simpa using c2
    by_cases c3 : 8192 < d.size
    case pos =>
      have c3b : decide ((8192 : Int) < (d.size : Int)) = true := by rw [decide_eq_true_eq]; omega
      go_wp2_with fail
      go_meet
      exact ⟨true, rfl, q1, hB, by rw [Hid, hG.out, show decide (d.size ≤ 8192) = false by simpa using c3]; simp⟩
    have c3b : decide ((8192 : Int) < (d.size : Int)) = false := by rw [decide_eq_false_iff_not]; omega
    go_wp2_with fail
    go_meet
    exact ⟨false, rfl, q1, hB, by rw [hG.out, show decide (0 ≤ k) = true by simpa using c1, show decide (k ≤ 2) = true by simpa using c2, show decide (d.size ≤ 8192) = true by simpa using c3]; rfl⟩
  case rest =>
    clear hB q0 z0 hER
    obtain ⟨g, rfl, q2, hB, hg⟩ := hcut
    obtain ⟨w2, hwc⟩ : ∃ x, x = wc := ⟨wc, rfl⟩
    subst hwc
    have z2 := q2.size
    cases g
    case true =>
      have h := hK.out
      rw [hg.out] at h
      cases h
    replace hg := hid_mk (show zg = true from hg.out)
    have hzr1 : Hid (zr = true) := by
      have h := hG.out
      rw [hg.out] at h
      cases zr
      · cases h
      · rfl
    have hR : Hid (rightN N = true) := hrr.out hzr1.out
    have hj : Hid (rightJ N.h.l = true) := (right_n hR.out).1
    clear hG hrr
    have lX := blk14f (hB.out.at_ 1 rfl)
    go_upto_if 42 with fail
    clear lX
    by_cases g2 : N.role = 2
    case neg =>
      have g2b : (N.role != 2) = true := by simpa using g2
      have h := hK.out
      rw [hg.out, show (N.role == 2) = false by simpa using g2] at h
      cases h
    have g2b : (N.role != 2) = false := by simpa using g2
    replace g2 := hid_mk g2
    have kb : (k == 2) = false := by simpa using hk2.out
    have hok : (zg && (N.role == 2 && !(k == 2 && !zc))) = true := hK.out
    have lX := blk14f (hB.out.at_ 1 rfl)
    go_upto_region 14 with fail
    clear lX
    have lX := blk14c (hB.out.at_ 1 rfl)
    go_wp2_with fail
    clear lX
    refine (hEW _ (by omega) (hN.to q2) hj.out (ht.to q2)).mono ?_
    rintro e w3 ⟨aW, rfl, hokW, hb1⟩
    have q3 := (after (w := w) hb1 q2).1
    have z3 := q3.size
    replace hB := hid_mk (hB.out.keep hb1)
    clear hb1 q2 z2
    obtain ⟨NW, hNW⟩ : ∃ x, hdN N (withH N.h ⟨N.h.t, k, d⟩) = x := ⟨_, rfl⟩
    rw [hNW] at hokW
    try rw [hNW]
    replace hokW := hid_mk hokW
    unfold nodeV
    have lX := blk14f (hB.out.at_ 1 rfl)
    go_upto_region 15 with fail
    clear lX
    have q4 := setN_below NW aW q3 (by omega : w.heap.size ≤ w.heap.size)
    have hokWn := hid_mk (hokW.out.kr (setN_kr (B := B) NW aW (hB.out.at_ 1 rfl) (by dsimp only; omega)))
    have hBn := hB.out.setN 1 rfl NW aW
    obtain ⟨w4, hwz⟩ : ∃ x, setN w3 (w.heap.size) NW aW = x := ⟨_, rfl⟩
    rw [hwz] at q4 hokWn hBn
    unfold setN set14 at hwz
    try rw [hwz]
    clear hwz
    replace hB : Hid (Bxs w.heap.size w4 [⟨w.heap.size + 1, 30, ndC zeroN nilA⟩, ⟨w.heap.size, 30, ndC NW aW⟩]) := hid_mk hBn
    clear hBn
    replace hokW := hid_mk hokWn
    clear hokWn
    have z4 := q4.size
    clear q3 z3
    cases zh
    case false =>
      have hno := hid_mk (add_bad (hs4.out hok rfl) (by decide))
      have lY := blk14f (hB.out.at_ 0 rfl)
      go_wp2_with fail
      clear lY
      refine (AnsA_any 130 _).mono ?_
      rintro e w5 ⟨rfl, hb1⟩
      have q5 := (after (w := w) hb1 q4).1
      have z5 := q5.size
      replace hB := hid_mk (hB.out.keep hb1)
      replace hokW := hid_mk (hokW.out.to hb1)
      clear hb1 q4 z4
      unfold nodeV
      have lY := blk14f (hB.out.at_ 0 rfl)
      go_wp2
      clear lY
      have kf := setN_blk (N := zeroN) (a := nilA) (hB.out.at_ 0 rfl)
      have qz := setN_below zeroN nilA q5 (by omega : w.heap.size ≤ w.heap.size + 1)
      unfold setN set14 zeroN nilA at kf qz
      have rs := blk14c kf
      refine ends_ret hQ (v := .tuple #[.agg (ndC zeroN nilA), .slice none 0 0, .int .i64 0, .int .i64 130]) (by simp [results, Tryz.results29, go_sem, rs, ndC, zeroN, nilA]) rfl ?_
      exact ⟨nilA, none, 0, 0, [], by rw [hno.out.1, hno.out.2.2.1, hno.out.2.2.2]; rfl, by rw [hno.out.1]; exact zero_ok, mgs_nil, by rw [hno.out.2.1]; rfl, Nat.le_refl _, qz⟩
    have h0 := hs5.out hok rfl
    have hfin := hid_mk (add_good h0)
    obtain ⟨hWr, hWl⟩ := add_mid (k := k) (d := d) hR.out hzh.out
    rw [hNW] at hWr hWl
    obtain ⟨hAr, hAl⟩ := add_base h0
    have hAe : addB N k d = NW := by
      unfold addB
      rw [hNW]
      rw [if_neg (by simpa using hk2.out)]
    obtain ⟨N2, hN2⟩ : ∃ x, addB N k d = x := ⟨_, rfl⟩
    rw [hN2] at hAr hAl hAe hfin
    obtain ⟨N3, hN3⟩ : ∃ x, sureN N2 = x := ⟨_, rfl⟩
    have hs3 := sure_same N2
    rw [hN3] at hs3 hfin
    have h3r : Hid (rightN N3 = true) := by rw [← hN3]; exact sure_right hAr
    have h3l : Hid (lastJ N3.h.l = la + 1) := by rw [Hid, hs3.2.1, hAl, hla.out]
    rw [hla.out] at hWl hfin
    have hidW : Hid (NW.id = N.id ∧ NW.ps = N.ps) := by rw [← hNW]; exact ⟨rfl, rfl⟩
    replace hNW := hid_mk hNW
    replace hN2 := hid_mk hN2
    replace hN3 := hid_mk hN3
    replace hs3 := hid_mk hs3
    replace hWr := hid_mk hWr
    replace hWl := hid_mk hWl
    replace hAr := hid_mk hAr
    replace hAl := hid_mk hAl
    replace h0 := hid_mk h0
    replace hok := hid_mk hok
    have e9 : NW = N2 := hAe.symm
    subst e9
    clear hAe
    have lX := blk14c (hB.out.at_ 1 rfl)
    go_wp2_with fail
    clear lX
    refine (ESure_any NW aW _ hokW.out hAr.out mm (hm2.out _ q4)).mono ?_
    rw [hN3.out]
    rintro e w5 ⟨rfl, hb1⟩
    have q5 := (after (w := w) hb1 q4).1
    have z5 := q5.size
    replace hB := hid_mk (hB.out.keep hb1)
    replace hokW := hid_mk (hokW.out.to hb1)
    clear hb1 q4 z4
    unfold nodeV
    have lX := blk14f (hB.out.at_ 1 rfl)
    go_upto_region 20 with fail
    clear lX
    have q6 := setN_below N3 aW q5 (by omega : w.heap.size ≤ w.heap.size)
    have hokWn := hid_mk (hokW.out.kr (setN_kr (B := B) N3 aW (hB.out.at_ 1 rfl) (by dsimp only; omega)))
    have hBn := hB.out.setN 1 rfl N3 aW
    obtain ⟨w6, hwz⟩ : ∃ x, setN w5 (w.heap.size) N3 aW = x := ⟨_, rfl⟩
    rw [hwz] at q6 hokWn hBn
    unfold setN set14 at hwz
    try rw [hwz]
    clear hwz
    replace hB : Hid (Bxs w.heap.size w6 [⟨w.heap.size + 1, 30, ndC zeroN nilA⟩, ⟨w.heap.size, 30, ndC N3 aW⟩]) := hid_mk hBn
    clear hBn
    replace hokW := hid_mk hokWn
    clear hokWn
    have z6 := q6.size
    clear q5 z5
    replace hokW : Hid (NdOk w6 B N3 aW) := hid_mk (nd_like hokW.out hs3.out.2.1 hs3.out.2.2.2.2.2.1 hs3.out.2.2.2.2.2.2.1)
    have lX := blk14f (hB.out.at_ 1 rfl)
    have lY := blk14f (hB.out.at_ 0 rfl)
    skip
    clear lX lY
    refine regm (fun w' => AtN w' w.heap.size N3 aW) 9 9 [(0, 0), (0, 0), (2, 2), (0, 0), (12, 8), (17, 1), (39, 4), (127, 16), (255, 0)] (by exact (hB.out.at_ 1 rfl).atN) (fun hS0 hR => ?_)
    replace hB := hid_mk hB.out.drew
    replace hokW := hid_mk (hokW.out.to (show Below w6.heap.size w6 w6.drew by go_grown))
    have qd : Below w.heap.size w w6.drew := by go_grown
    obtain ⟨wd, hwd⟩ : ∃ x, w6.drew = x := ⟨_, rfl⟩
    rw [hwd] at hS0 hB hokW qd ⊢
    clear hwd q6 z6
    have zd := qd.size
    refine tkn (i := 0) hR hS0 (h := ?_)
    refine tkn (i := 1) hR hS0 (h := ?_)
    refine tkn (i := 3) hR hS0 (h := ?_)
    refine onem (i := 2) hR (h := fun K hK => ?_)
    go_simp
    refine (ESendAll_any N3 aW _ (Nat.le_trans hBw qd.size) hokW.out h3r.out).mono ?_
    rintro e wS ⟨LA, ln, lc, pm, rfl, hMg, hpm, hlc, hb1⟩
    have qS := (after (w := w) hb1 qd).1
    replace hB := hid_mk (hB.out.keep hb1)
    replace hokW := hid_mk (hokW.out.to hb1)
    replace hMg := hid_mk hMg
    replace hpm := hid_mk hpm
    clear hb1 qd zd
    have hS1 := (hB.out.at_ 1 rfl).atN
    refine hK.out _ _ (fun _ => hS1) ?_
    clear hK K hS0
    have hS0 := hS1
    clear hS1
    refine onem (i := 4) hR (h := fun K hK => ?_)
    go_simp
    refine (ELast_any N3 aW _ hokW.out (right_n h3r.out).1).mono ?_
    rw [h3l.out]
    rintro e wL ⟨rfl, hb1⟩
    have qL := (after (w := w) hb1 qS).1
    replace hB := hid_mk (hB.out.keep hb1)
    replace hokW := hid_mk (hokW.out.to hb1)
    replace hMg := hid_mk (hMg.out.to hb1)
    clear hb1 qS
    have hS1 := (hB.out.at_ 1 rfl).atN
    refine hK.out _ _ (fun _ => hS1) ?_
    clear hK K hS0
    have hS0 := hS1
    clear hS1
    have lY := blk14f (hB.out.at_ 0 rfl)
    refine onem (i := 5) hR (h := fun K hK => ?_)
    go_simp
    clear lY
    have hkr := setN_kr (B := B) N3 aW (hB.out.at_ 0 rfl) (by dsimp only; omega)
    replace hMg := hid_mk (mgs_setN hMg.out (hB.out.at_ 0 rfl) (by dsimp only; omega) N3 aW)
    replace hokW := hid_mk (hokW.out.kr hkr)
    clear hkr
    have qz := setN_below N3 aW qL (by omega : w.heap.size ≤ w.heap.size + 1)
    have hBn := hB.out.setN 0 rfl N3 aW
    obtain ⟨wz, hwz⟩ : ∃ x, setN wL (w.heap.size + 1) N3 aW = x := ⟨_, rfl⟩
    rw [hwz] at hBn hokW hMg qz
    replace hB : Hid (Bxs w.heap.size wz [⟨w.heap.size + 1, 30, ndC N3 aW⟩, ⟨w.heap.size, 30, ndC N3 aW⟩]) := hid_mk hBn
    clear hBn
    unfold setN set14 at hwz
    rw [hwz]
    clear hwz
    have hS1 := (hB.out.at_ 1 rfl).atN
    refine hK.out _ _ (fun _ => hS1) ?_
    clear hK K hS0
    have hS0 := hS1
    clear hS1
    refine onem (i := 6) hR (h := fun K hK => ?_)
    go_simp
    have hS1 := (hB.out.at_ 1 rfl).atN
    refine hK.out _ _ (fun _ => hS1) ?_
    clear hK K hS0
    have hS0 := hS1
    clear hS1
    refine onem (i := 7) hR (h := fun K hK => ?_)
    go_simp
    have hS1 := (hB.out.at_ 1 rfl).atN
    refine hK.out _ _ (fun _ => hS1) ?_
    clear hK K hS0
    have hS0 := hS1
    clear hS1
    refine onem (i := 8) hR (h := fun K hK => ?_)
    go_simp
    have hS1 := (hB.out.at_ 1 rfl).atN
    refine hK.out _ _ (fun _ => hS1) ?_
    clear hK K hS0
    have hS0 := hS1
    clear hS1
    refine donem hR (h := ?_)
    try simp only [Act.put]
    have lY := blk14c (hB.out.at_ 0 rfl)
    go_wp2
    refine ends_ret hQ (v := .tuple #[.agg (ndC N3 aW), .slice LA ln lc, .int .i64 (la + 1), .int .i64 0]) (by simp [results, Tryz.results29, go_sem, lY, ndC]) rfl ?_
    exact ⟨aW, LA, ln, lc, pm, by rw [hfin.out.1, hfin.out.2.2.1, hfin.out.2.2.2]; rfl, by rw [hfin.out.1]; exact hokW.out, hMg.out, by rw [hfin.out.2.1]; exact hpm.out, hlc, qz⟩
end Go.Proofs.YtncdjmpdbinanaaGreatDoor
