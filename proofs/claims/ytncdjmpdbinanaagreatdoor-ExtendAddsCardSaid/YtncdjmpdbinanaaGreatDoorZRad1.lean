/-
  WHAT IS PROVED HERE: what the reference's Add hands back of a node that may be. (Where it refuses, or what is added is no voters.) Conditions: the slices are of at most 2^47 bytes; the library's table stands.
-/
import Derived.Test.YtncdjmpdbinanaaGreatDoorZGEad
import Derived.Test.YtncdjmpdbinanaaGreatDoorZGNd
import Derived.Test.YtncdjmpdbinanaaGreatDoorZGSr
import Derived.Test.YtncdjmpdbinanaaGreatDoorZGRon
import Derived.Test.YtncdjmpdbinanaaGreatDoorZRew
import Derived.Test.YtncdjmpdbinanaaGreatDoorZGQrm
import Derived.Deep.DeepCutAuto
namespace Go.Proofs.YtncdjmpdbinanaaGreatDoor
open Go.RowKit

theorem peersF_snoc (vs : List Int) (v s n : Int) (old : List Pr) : peersF (vs ++ [v]) s n old = peersF vs s n old ++ (if v = s then [] else [(findP v old).getD ⟨v, n, 0⟩]) := by
  unfold peersF
  rw [List.filter_append, List.map_append]
  by_cases h : v = s
  · simp [h]
  · simp [h]
theorem peersF_nil (s n : Int) (old : List Pr) : peersF [] s n old = [] := rfl
set_option maxRecDepth 100000 in
set_option maxHeartbeats 12800000 in
theorem RAdd1_any (N : Nd) (a : NdA) (k : Int) (d : ByteArray) (w : World) {B : Nat} (_hBw : B ≤ w.heap.size) (hzr : rightN N = true) (hN : NdOk w B N a) (_ht : Tab w) (hK : addOk N k d = false) :
    Calls Tryz.prog 30 #[nodeV N a, .int .i64 k, .string d] w (RetAd w B (addN N k d) (addL N k d) (addAt N k d) (addE N k d)) := by
  obtain ⟨zg, hzg⟩ : ∃ x, addG N k d = x := ⟨_, rfl⟩
  obtain ⟨zc, hzc⟩ : ∃ x, confC N d = x := ⟨_, rfl⟩
  obtain ⟨zh, hzh⟩ : ∃ x, rightH (withH N.h ⟨N.h.t, k, d⟩) = x := ⟨_, rfl⟩
  obtain ⟨la, hla⟩ : ∃ x, lastJ N.h.l = x := ⟨_, rfl⟩
  have hG : Hid (zg = (decide (0 ≤ k) && (decide (k ≤ 2) && decide (d.size ≤ 8192)))) := by
    rw [Hid, ← hzg]
    unfold addG
    rw [hzr]
    rfl
  have hS := add_say N k d
  unfold addOk at hS
  rw [hzg, hzc, hzh] at hS
  obtain ⟨hs1, hs2, hs3, hs4, hs5⟩ := hS
  replace hs1 := hid_mk hs1
  replace hs2 := hid_mk hs2
  replace hs3 := hid_mk hs3
  replace hs4 := hid_mk hs4
  replace hs5 := hid_mk hs5
  have hR : Hid (rightN N = true) := hzr
  have hj : Hid (rightJ N.h.l = true) := (right_n hzr).1
  have hrj := right_iff.1 hj.out
  have hb0 : Hid (0 ≤ N.h.l.base ∧ N.h.l.base ≤ 1073741824) := ⟨hrj.1, hrj.2.1⟩
  have hcf : Hid (N.role = 2 → zc = ((parseR d.data.toList).isSome && (nextL (votersN N) ((parseR d.data.toList).getD []) && (inL N.id ((parseR d.data.toList).getD []) && (decide (saidN N ≤ N.commit) && ((termJ N.h.l N.commit).getD (-1) == N.h.t)))))) := fun e2 => by
    rw [← hzc, add_conf hzr e2, parse_eq]
    obtain ⟨t, hts⟩ := (commit_term hzr).2.2.2
    unfold termAtJ
    rw [if_pos hj.out, hts]
    rfl
  unfold addOk at hK
  rw [hzg, hzc] at hK
  replace hK := hid_mk hK
  have hEW := fun (w : World) (h0 : B ≤ w.heap.size) (h : NdOk w B N a) (h2 : Tab w) => RWith_any N a ⟨N.h.t, k, d⟩ w h0 h hj.out h2
  rw [hzh] at hEW
  have hnb := nd_rn hN
  clear hrj hzr
  replace hzg := hid_mk hzg
  replace hzc := hid_mk hzc
  replace hzh := hid_mk hzh
  replace hla := hid_mk hla
  unfold nodeV at hEW ⊢
  unfold recVal at hEW
  dsimp only at hEW ⊢
  obtain ⟨w0, hw0⟩ : ∃ x, ((w.alloc (.cells (ndC N a) 30)).alloc (.cells (ndC zeroN nilA) 30)) = x := ⟨_, rfl⟩
  have hB : Hid (Bxs w.heap.size w0 [⟨w.heap.size + 1, 30, ndC zeroN nilA⟩, ⟨w.heap.size, 30, ndC N a⟩]) := by
    rw [← hw0]
    exact (((Bxs.nil w.heap.size w).add_ rfl (by omega) 30 (ndC N a)).add_ (by simp) (by omega) 30 (ndC zeroN nilA))
  have q0 : Below w.heap.size w w0 := by rw [← hw0]; go_grown
  have z0 := q0.size
  dsimp only [ndC, msC, zeroN, nilA, zeroM, nilMA] at hw0
  refine calls_of_wpQ Tryz.func30 rfl ?_
  intro Q hQ
  simp only [Tryz.ntmps30, List.size_toArray, List.length_cons, List.length_nil, Nat.reduceAdd, Nat.reduceSub, Array.replicate_succ, Array.replicate_zero, List.push_toArray, List.append_toArray, List.nil_append, List.cons_append]
  go_upto_region 1 with fail
  try rw [hw0]
  clear hw0
  have lX := blk14c (hB.out.at_ 1 rfl)
  obtain ⟨gZ, hgZ⟩ : ∃ g, w0.heap.size = g := ⟨_, rfl⟩
  have lgZ : w.heap.size ≤ gZ := by rw [← hgZ]; exact q0.size
  replace hB := hid_mk (hB.out.add_ hgZ lgZ 30 (ndC zeroN nilA))
  have q1 := q0.alloc q0.size (.cells (ndC zeroN nilA) 30)
  obtain ⟨w1, hw1⟩ : ∃ x, w0.alloc (.cells (ndC zeroN nilA) 30) = x := ⟨_, rfl⟩
  rw [hw1] at hB  q1
  try unfold ndC at hw1
  replace hw1 := hid_mk hw1
  replace hgZ := hid_mk hgZ
  unfold zeroN nilA at hw1
  dsimp only at hw1
  go_upto_region 2 with fail
  try rw [hw1.out]
  try rw [hgZ.out]
  clear lX hw1 hgZ q0 z0
  have z1 := q1.size
  go_cut [32] from 22 to 32 (fun p32 wx => ∃ g : Bool, p32 = .bool g ∧ Below w.heap.size w wx ∧ Hid (Bxs w.heap.size wx [⟨gZ, 30, ndC zeroN nilA⟩, ⟨w.heap.size + 1, 30, ndC zeroN nilA⟩, ⟨w.heap.size, 30, ndC N a⟩]) ∧ Hid (zg = !g))
  case first =>
    by_cases c1 : k < 0
    case pos =>
      have c1b : decide (k < 0) = true := by simpa using c1
      go_wp2_with fail
      go_meet
      exact ⟨true, rfl, q1, hB, by rw [hG.out, show decide (0 ≤ k) = false by simpa using c1]; rfl⟩
    have c1b : decide (k < 0) = false := by simpa using c1
    by_cases c2 : 2 < k
    case pos =>
      have c2b : decide (2 < k) = true := by simpa using c2
      go_wp2_with fail
      go_meet
      exact ⟨true, rfl, q1, hB, by rw [Hid, hG.out, show decide (k ≤ 2) = false by simpa using c2]; simp⟩
    have c2b : decide (2 < k) = false := by simpa using c2
    by_cases c3 : 8192 < d.size
    case pos =>
      have c3b : decide ((8192 : Int) < (d.size : Int)) = true := by rw [decide_eq_true_eq]; omega
      go_wp2_with fail
      go_meet
      exact ⟨true, rfl, q1, hB, by rw [Hid, hG.out, show decide (d.size ≤ 8192) = false by simpa using c3]; simp⟩
    have c3b : decide ((8192 : Int) < (d.size : Int)) = false := by rw [decide_eq_false_iff_not]; omega
    go_wp2_with fail
    go_meet
    exact ⟨false, rfl, q1, hB, by rw [hG.out, show decide (0 ≤ k) = true by simpa using c1, show decide (k ≤ 2) = true by simpa using c2, show decide (d.size ≤ 8192) = true by simpa using c3]; rfl⟩
  case rest =>
    clear hB q1 z1
    obtain ⟨g, rfl, q2, hB, hg⟩ := hcut
    obtain ⟨w2, hwc⟩ : ∃ x, x = wc := ⟨wc, rfl⟩
    subst hwc
    have z2 := q2.size
    cases g
    case true =>
      have hno := hid_mk (add_bad (hs1.out hg.out) (by decide))
      have lY := blk14f (hB.out.at_ 1 rfl)
      have lZ := blk14f (hB.out.at_ 0 rfl)
      go_wp2
      clear lY lZ
      have kf := setN_blk (N := zeroN) (a := nilA) (hB.out.at_ 1 rfl)
      have qz := setN_below zeroN nilA q2 (by omega : w.heap.size ≤ w.heap.size + 1)
      unfold setN set14 zeroN nilA at kf qz
      have rs := blk14c kf
      refine ends_ret hQ (v := .tuple #[.agg (ndC zeroN nilA), .slice none 0 0, .int .i64 0, .int .i64 1]) (by simp [results, Tryz.results30, go_sem, rs, ndC, zeroN, nilA]) rfl ?_
      exact ⟨nilA, none, 0, 0, [], by rw [hno.out.1, hno.out.2.2.1, hno.out.2.2.2]; rfl, by rw [hno.out.1]; exact zero_ok, mgs_nil, by rw [hno.out.2.1]; rfl, Nat.le_refl _, qz⟩
    replace hg := hid_mk (show zg = true from hg.out)
    clear hG
    have lX := blk14f (hB.out.at_ 2 rfl)
    go_upto_if 36 with fail
    clear lX
    by_cases g2 : N.role = 2
    case neg =>
      have g2b : (N.role != 2) = true := by simpa using g2
      have hno := hid_mk (add_bad (hs2.out hg.out g2) (by decide))
      have lY := blk14f (hB.out.at_ 1 rfl)
      have lZ := blk14f (hB.out.at_ 0 rfl)
      go_wp2
      clear lY lZ
      have kf := setN_blk (N := zeroN) (a := nilA) (hB.out.at_ 1 rfl)
      have qz := setN_below zeroN nilA q2 (by omega : w.heap.size ≤ w.heap.size + 1)
      unfold setN set14 zeroN nilA at kf qz
      have rs := blk14c kf
      refine ends_ret hQ (v := .tuple #[.agg (ndC zeroN nilA), .slice none 0 0, .int .i64 0, .int .i64 171]) (by simp [results, Tryz.results30, go_sem, rs, ndC, zeroN, nilA]) rfl ?_
      exact ⟨nilA, none, 0, 0, [], by rw [hno.out.1, hno.out.2.2.1, hno.out.2.2.2]; rfl, by rw [hno.out.1]; exact zero_ok, mgs_nil, by rw [hno.out.2.1]; rfl, Nat.le_refl _, qz⟩
    have g2b : (N.role != 2) = false := by simpa using g2
    have hcf2 := hcf.out g2
    obtain ⟨PO, hPO⟩ : ∃ x, parseR d.data.toList = x := ⟨_, rfl⟩
    rw [hPO] at hcf2
    obtain ⟨ps, hps⟩ : ∃ x, PO.isSome = x := ⟨_, rfl⟩
    obtain ⟨PV, hPV⟩ : ∃ x, PO.getD [] = x := ⟨_, rfl⟩
    have hPA := fun (w : World) => refParse_any d w
    rw [hPO] at hPA
    unfold RetQR at hPA
    rw [hps, hPV] at hcf2 hPA
    have hOF := fun (w : World) (h : NdOk w B N a) => refOf_anyC N.h.t N.h.v N.h.l a.R.A a.R.n a.R.c N.h.s a.V.A a.V.n a.V.c N.h.vs w B B (by omega) (by omega) h.recs h.vs
    have hvo : ofF N.h.l.base 0 (N.h.vs, N.h.l.base) N.h.l.rs = (votersN N, saidN N) := rfl
    rw [hvo] at hOF
    unfold RetOfC hardV at hOF
    dsimp only at hOF
    obtain ⟨VN, hVN⟩ : ∃ x, votersN N = x := ⟨_, rfl⟩
    obtain ⟨sd, hsd⟩ : ∃ x, saidN N = x := ⟨_, rfl⟩
    rw [hVN, hsd] at hcf2 hOF
    have hTA := fun (w : World) (h : NdOk w B N a) => refTerm_any N.h.l N.commit a.R.A a.R.n a.R.c w (by omega) h.recs hb0.out.1 hb0.out.2
    unfold logV at hTA
    obtain ⟨tv, htv⟩ : ∃ x, (termJ N.h.l N.commit).getD (-1) = x := ⟨_, rfl⟩
    rw [htv] at hcf2 hTA
    obtain ⟨zn, hzn⟩ : ∃ x, nextL VN PV = x := ⟨_, rfl⟩
    obtain ⟨zi, hzi⟩ : ∃ x, inL N.id PV = x := ⟨_, rfl⟩
    rw [hzn, hzi] at hcf2
    replace g2 := hid_mk g2
    replace hcf2 := hid_mk hcf2
    replace hPO := hid_mk hPO
    replace hps := hid_mk hps
    replace hPV := hid_mk hPV
    replace hVN := hid_mk hVN
    replace hsd := hid_mk hsd
    replace htv := hid_mk htv
    replace hzn := hid_mk hzn
    replace hzi := hid_mk hzi
    clear hvo hcf
    have lX := blk14c (hB.out.at_ 2 rfl)
    go_wp2_with fail
    clear lX
    refine (hOF _ (hN.to q2)).mono ?_
    rintro e w3 ⟨OA, on, oc, rfl, hoI, hon, _, hb1⟩
    have q3 := (after (w := w) hb1 q2).1
    have z3 := q3.size
    replace hB := hid_mk (hB.out.keep hb1)
    clear hb1 q2 z2
    replace hoI := hid_mk hoI
    have lX := blk14c (hB.out.at_ 2 rfl)
    go_wp2_with fail
    clear lX
    refine (hPA _).mono ?_
    rintro e w4 ⟨PA, pn, pc, rfl, hvI, hpc, hpn, hb1⟩
    have q4 := (after (w := w) hb1 q3).1
    have z4 := q4.size
    replace hB := hid_mk (hB.out.keep hb1)
    replace hoI := hid_mk (hoI.out.to hb1)
    clear hb1 q3 z3
    clear hPA hOF
    have lX := blk14f (hB.out.at_ 2 rfl)
    go_upto_region 8 with fail
    clear lX
    have hvJ : Hid (ps = true → Ints w4 0 PA pn PV) := hvI
    clear hvI
    go_cut [85] from 49 to 85 (fun p85 wx => ∃ g : Bool, p85 = .bool g ∧ Below w.heap.size w wx ∧ Hid (Bxs w.heap.size wx [⟨gZ, 30, ndC zeroN nilA⟩, ⟨w.heap.size + 1, 30, ndC zeroN nilA⟩, ⟨w.heap.size, 30, ndC N a⟩]) ∧ Hid (ps = true → Ints wx 0 PA pn PV) ∧ Hid ((k == 2 && !zc) = g))
    case first =>
      refine regm (fun w' => AtN w' w.heap.size N a) 37 37 [(0, 0), (1, 1), (2, 2), (4, 4), (12, 12), (20, 20), (32, 32), (32, 32), (224, 224), (288, 288), (548, 548), (1284, 1028), (2048, 2048), (2048, 2048), (10240, 10240), (22528, 22528), (34816, 34816), (67588, 67588), (163844, 131076), (262144, 262144), (262144, 262144), (1310720, 1310720), (2883584, 2883584), (4456452, 4456452), (8650756, 8388612), (16777216, 16777216), (50331648, 50331648), (83886080, 83886080), (16777216, 16777216), (285212672, 285212672), (687865856, 687865856), (16777216, 16777216), (2164260864, 2164260864), (4311744512, 4311744512), (9680453632, 9680453632), (17196646404, 17196646404), (34359738372, 34359738372)] (by exact (hB.out.at_ 2 rfl).atN) (fun hS0 hR => ?_)
      replace hB := hid_mk hB.out.drew
      replace hvJ : Hid (ps = true → Ints w4.drew 0 PA pn PV) := fun e => (hvJ.out e).to (show Below w4.heap.size w4 w4.drew by go_grown)
      replace hoI := hid_mk (hoI.out.to (show Below w4.heap.size w4 w4.drew by go_grown))
      have qd : Below w.heap.size w w4.drew := by go_grown
      obtain ⟨wd, hwd⟩ : ∃ x, w4.drew = x := ⟨_, rfl⟩
      rw [hwd] at hS0 hvJ hB hoI qd ⊢
      clear hwd q4 z4
      have zd := qd.size
      refine tkn (i := 0) hR hS0 (h := ?_)
      by_cases kk : k = 2
      case neg =>
        have kb : (k == 2) = false := by simpa using kk
        replace kk := hid_mk kk
        refine tkn (i := 1) hR hS0 (h := ?_)
        refine tkn (i := 2) hR hS0 (h := ?_)
        refine skm (i := 3) hR hS0 (h := ?_)
        refine skm (i := 4) hR hS0 (h := ?_)
        simp only [Act.put]
        refine skm (i := 5) hR hS0 (h := ?_)
        refine skm (i := 6) hR hS0 (h := ?_)
        refine skm (i := 7) hR hS0 (h := ?_)
        refine skm (i := 8) hR hS0 (h := ?_)
        refine skm (i := 9) hR hS0 (h := ?_)
        simp only [Act.put]
        refine skm (i := 10) hR hS0 (h := ?_)
        refine skm (i := 11) hR hS0 (h := ?_)
        refine skm (i := 12) hR hS0 (h := ?_)
        refine skm (i := 13) hR hS0 (h := ?_)
        refine skm (i := 14) hR hS0 (h := ?_)
        simp only [Act.put]
        refine skm (i := 15) hR hS0 (h := ?_)
        refine skm (i := 16) hR hS0 (h := ?_)
        refine skm (i := 17) hR hS0 (h := ?_)
        refine skm (i := 18) hR hS0 (h := ?_)
        refine skm (i := 19) hR hS0 (h := ?_)
        simp only [Act.put]
        refine skm (i := 20) hR hS0 (h := ?_)
        refine skm (i := 21) hR hS0 (h := ?_)
        refine skm (i := 22) hR hS0 (h := ?_)
        refine skm (i := 23) hR hS0 (h := ?_)
        refine skm (i := 24) hR hS0 (h := ?_)
        simp only [Act.put]
        refine skm (i := 25) hR hS0 (h := ?_)
        refine skm (i := 26) hR hS0 (h := ?_)
        refine skm (i := 27) hR hS0 (h := ?_)
        refine skm (i := 28) hR hS0 (h := ?_)
        refine skm (i := 29) hR hS0 (h := ?_)
        simp only [Act.put]
        refine skm (i := 30) hR hS0 (h := ?_)
        refine skm (i := 31) hR hS0 (h := ?_)
        refine skm (i := 32) hR hS0 (h := ?_)
        refine skm (i := 33) hR hS0 (h := ?_)
        refine skm (i := 34) hR hS0 (h := ?_)
        simp only [Act.put]
        refine skm (i := 35) hR hS0 (h := ?_)
        refine tkn (i := 36) hR hS0 (h := ?_)
        refine donem hR (h := ?_)
        try simp only [Act.put]
        go_wp2_with fail
        go_meet
        exact ⟨false, rfl, qd, hB, hvJ, hid_mk (by rw [kb]; rfl)⟩
      case pos =>
        have kb : (k == 2) = true := by simpa using kk
        replace kk := hid_mk kk
        refine tkn (i := 1) hR hS0 (h := ?_)
        refine tkn (i := 2) hR hS0 (h := ?_)
        refine tkn (i := 3) hR hS0 (h := ?_)
        cases ps
        case false =>
          refine tkn (i := 4) hR hS0 (h := ?_)
          simp only [Act.put]
          refine tkn (i := 5) hR hS0 (h := ?_)
          refine skm (i := 6) hR hS0 (h := ?_)
          refine skm (i := 7) hR hS0 (h := ?_)
          refine skm (i := 8) hR hS0 (h := ?_)
          refine skm (i := 9) hR hS0 (h := ?_)
          simp only [Act.put]
          refine tkn (i := 10) hR hS0 (h := ?_)
          refine tkn (i := 11) hR hS0 (h := ?_)
          refine skm (i := 12) hR hS0 (h := ?_)
          refine skm (i := 13) hR hS0 (h := ?_)
          refine skm (i := 14) hR hS0 (h := ?_)
          simp only [Act.put]
          refine skm (i := 15) hR hS0 (h := ?_)
          refine skm (i := 16) hR hS0 (h := ?_)
          refine tkn (i := 17) hR hS0 (h := ?_)
          refine tkn (i := 18) hR hS0 (h := ?_)
          refine skm (i := 19) hR hS0 (h := ?_)
          simp only [Act.put]
          refine skm (i := 20) hR hS0 (h := ?_)
          refine skm (i := 21) hR hS0 (h := ?_)
          refine skm (i := 22) hR hS0 (h := ?_)
          refine tkn (i := 23) hR hS0 (h := ?_)
          refine tkn (i := 24) hR hS0 (h := ?_)
          simp only [Act.put]
          refine skm (i := 25) hR hS0 (h := ?_)
          refine skm (i := 26) hR hS0 (h := ?_)
          refine skm (i := 27) hR hS0 (h := ?_)
          refine skm (i := 28) hR hS0 (h := ?_)
          refine skm (i := 29) hR hS0 (h := ?_)
          simp only [Act.put]
          refine skm (i := 30) hR hS0 (h := ?_)
          refine skm (i := 31) hR hS0 (h := ?_)
          refine skm (i := 32) hR hS0 (h := ?_)
          refine skm (i := 33) hR hS0 (h := ?_)
          refine skm (i := 34) hR hS0 (h := ?_)
          simp only [Act.put]
          refine tkn (i := 35) hR hS0 (h := ?_)
          refine tkn (i := 36) hR hS0 (h := ?_)
          refine donem hR (h := ?_)
          try simp only [Act.put]
          go_wp2_with fail
          go_meet
          exact ⟨true, rfl, qd, hB, hvJ, hid_mk (by rw [kb, hcf2.out]; rfl)⟩
        case true =>
          refine tkn (i := 4) hR hS0 (h := ?_)
          simp only [Act.put]
          refine tkn (i := 5) hR hS0 (h := ?_)
          refine tkn (i := 6) hR hS0 (h := ?_)
          refine tkn (i := 7) hR hS0 (h := ?_)
          refine onem (i := 8) hR (h := fun K hK => ?_)
          go_simp
          refine (refNext_any OA on oc VN PA pn pc PV _ B (by omega) (by omega) hoI.out ((hvJ.out rfl).more (Nat.zero_le B))).mono ?_
          rw [hzn.out]
          rintro e wN ⟨rfl, hwN⟩
          subst hwN
          have hS1 := (hB.out.at_ 2 rfl).atN
          refine hK.out _ _ (fun _ => hS1) ?_
          clear hK K hS0
          have hS0 := hS1
          clear hS1
          refine tkn (i := 9) hR hS0 (h := ?_)
          cases zn
          case false =>
            refine tkn (i := 10) hR hS0 (h := ?_)
            simp only [Act.put]
            refine tkn (i := 11) hR hS0 (h := ?_)
            refine skm (i := 12) hR hS0 (h := ?_)
            refine skm (i := 13) hR hS0 (h := ?_)
            refine skm (i := 14) hR hS0 (h := ?_)
            refine skm (i := 15) hR hS0 (h := ?_)
            simp only [Act.put]
            refine skm (i := 16) hR hS0 (h := ?_)
            refine tkn (i := 17) hR hS0 (h := ?_)
            refine tkn (i := 18) hR hS0 (h := ?_)
            refine skm (i := 19) hR hS0 (h := ?_)
            refine skm (i := 20) hR hS0 (h := ?_)
            simp only [Act.put]
            refine skm (i := 21) hR hS0 (h := ?_)
            refine skm (i := 22) hR hS0 (h := ?_)
            refine tkn (i := 23) hR hS0 (h := ?_)
            refine tkn (i := 24) hR hS0 (h := ?_)
            refine skm (i := 25) hR hS0 (h := ?_)
            simp only [Act.put]
            refine skm (i := 26) hR hS0 (h := ?_)
            refine skm (i := 27) hR hS0 (h := ?_)
            refine skm (i := 28) hR hS0 (h := ?_)
            refine skm (i := 29) hR hS0 (h := ?_)
            refine skm (i := 30) hR hS0 (h := ?_)
            simp only [Act.put]
            refine skm (i := 31) hR hS0 (h := ?_)
            refine skm (i := 32) hR hS0 (h := ?_)
            refine skm (i := 33) hR hS0 (h := ?_)
            refine skm (i := 34) hR hS0 (h := ?_)
            refine tkn (i := 35) hR hS0 (h := ?_)
            simp only [Act.put]
            refine tkn (i := 36) hR hS0 (h := ?_)
            refine donem hR (h := ?_)
            try simp only [Act.put]
            go_wp2_with fail
            go_meet
            exact ⟨true, rfl, qd, hB, hvJ, hid_mk (by rw [kb, hcf2.out]; rfl)⟩
          case true =>
            refine tkn (i := 10) hR hS0 (h := ?_)
            simp only [Act.put]
            refine tkn (i := 11) hR hS0 (h := ?_)
            refine tkn (i := 12) hR hS0 (h := ?_)
            refine tkn (i := 13) hR hS0 (h := ?_)
            refine tkn (i := 14) hR hS0 (h := ?_)
            refine onem (i := 15) hR (h := fun K hK => ?_)
            go_simp
            refine (In_any PA pn pc PV N.id _ 0 (by omega) (hvJ.out rfl)).mono ?_
            rw [hzi.out]
            rintro e wI ⟨rfl, hwI⟩
            subst hwI
            have hS1 := (hB.out.at_ 2 rfl).atN
            refine hK.out _ _ (fun _ => hS1) ?_
            clear hK K hS0
            have hS0 := hS1
            clear hS1
            refine tkn (i := 16) hR hS0 (h := ?_)
            simp only [Act.put]
            cases zi
            case false =>
              refine tkn (i := 17) hR hS0 (h := ?_)
              refine tkn (i := 18) hR hS0 (h := ?_)
              refine skm (i := 19) hR hS0 (h := ?_)
              refine skm (i := 20) hR hS0 (h := ?_)
              refine skm (i := 21) hR hS0 (h := ?_)
              simp only [Act.put]
              refine skm (i := 22) hR hS0 (h := ?_)
              refine tkn (i := 23) hR hS0 (h := ?_)
              refine tkn (i := 24) hR hS0 (h := ?_)
              refine skm (i := 25) hR hS0 (h := ?_)
              refine skm (i := 26) hR hS0 (h := ?_)
              simp only [Act.put]
              refine skm (i := 27) hR hS0 (h := ?_)
              refine skm (i := 28) hR hS0 (h := ?_)
              refine skm (i := 29) hR hS0 (h := ?_)
              refine skm (i := 30) hR hS0 (h := ?_)
              refine skm (i := 31) hR hS0 (h := ?_)
              simp only [Act.put]
              refine skm (i := 32) hR hS0 (h := ?_)
              refine skm (i := 33) hR hS0 (h := ?_)
              refine skm (i := 34) hR hS0 (h := ?_)
              refine tkn (i := 35) hR hS0 (h := ?_)
              refine tkn (i := 36) hR hS0 (h := ?_)
              simp only [Act.put]
              refine donem hR (h := ?_)
              try simp only [Act.put]
              go_wp2_with fail
              go_meet
              exact ⟨true, rfl, qd, hB, hvJ, hid_mk (by rw [kb, hcf2.out]; rfl)⟩
            case true =>
              refine tkn (i := 17) hR hS0 (h := ?_)
              refine tkn (i := 18) hR hS0 (h := ?_)
              refine tkn (i := 19) hR hS0 (h := ?_)
              refine tkn (i := 20) hR hS0 (h := ?_)
              refine tkn (i := 21) hR hS0 (h := ?_)
              simp only [Act.put]
              by_cases s1 : N.commit < sd
              case pos =>
                have s1b : decide (N.commit < sd) = true := by simpa using s1
                have s1c : decide (sd ≤ N.commit) = false := by simpa using s1
                replace s1 := hid_mk s1
                refine tkn (i := 22) hR hS0 (h := ?_)
                refine tkn (i := 23) hR hS0 (h := ?_)
                refine tkn (i := 24) hR hS0 (h := ?_)
                refine skm (i := 25) hR hS0 (h := ?_)
                refine skm (i := 26) hR hS0 (h := ?_)
                simp only [Act.put]
                refine skm (i := 27) hR hS0 (h := ?_)
                refine skm (i := 28) hR hS0 (h := ?_)
                refine skm (i := 29) hR hS0 (h := ?_)
                refine skm (i := 30) hR hS0 (h := ?_)
                refine skm (i := 31) hR hS0 (h := ?_)
                simp only [Act.put]
                refine skm (i := 32) hR hS0 (h := ?_)
                refine skm (i := 33) hR hS0 (h := ?_)
                refine skm (i := 34) hR hS0 (h := ?_)
                refine tkn (i := 35) hR hS0 (h := ?_)
                refine tkn (i := 36) hR hS0 (h := ?_)
                simp only [Act.put]
                refine donem hR (h := ?_)
                try simp only [Act.put]
                go_wp2_with fail
                go_meet
                exact ⟨true, rfl, qd, hB, hvJ, hid_mk (by rw [kb, hcf2.out, s1c]; rfl)⟩
              case neg =>
                have s1b : decide (N.commit < sd) = false := by simpa using s1
                have s1c : decide (sd ≤ N.commit) = true := by simpa using s1
                replace s1 := hid_mk s1
                refine tkn (i := 22) hR hS0 (h := ?_)
                refine tkn (i := 23) hR hS0 (h := ?_)
                refine tkn (i := 24) hR hS0 (h := ?_)
                refine tkn (i := 25) hR hS0 (h := ?_)
                refine tkn (i := 26) hR hS0 (h := ?_)
                simp only [Act.put]
                refine tkn (i := 27) hR hS0 (h := ?_)
                refine tkn (i := 28) hR hS0 (h := ?_)
                refine tkn (i := 29) hR hS0 (h := ?_)
                refine tkn (i := 31) hR hS0 (h := ?_)
                refine tkn (i := 32) hR hS0 (h := ?_)
                simp only [Act.put]
                refine tkn (i := 33) hR hS0 (h := ?_)
                refine onem (i := 30) hR (h := fun K hK => ?_)
                go_simp
                refine (hTA _ (hN.to qd)).mono ?_
                rintro e wT ⟨rfl, hb1⟩
                have qT := (after (w := w) hb1 qd).1
                replace hB := hid_mk (hB.out.keep hb1)
                replace hvJ : Hid (true = true → Ints wT 0 PA pn PV) := fun e => (hvJ.out e).to hb1
                clear hb1
                have hS1 := (hB.out.at_ 2 rfl).atN
                refine hK.out _ _ (fun _ => hS1) ?_
                clear hK K hS0
                have hS0 := hS1
                clear hS1
                by_cases s2 : tv = N.h.t
                case pos =>
                  have s2b : (tv == N.h.t) = true := by simpa using s2
                  have s2c : (tv != N.h.t) = false := by simpa using s2
                  replace s2 := hid_mk s2
                  refine tkn (i := 34) hR hS0 (h := ?_)
                  refine tkn (i := 35) hR hS0 (h := ?_)
                  refine tkn (i := 36) hR hS0 (h := ?_)
                  refine donem hR (h := ?_)
                  try simp only [Act.put]
                  go_wp2_with fail
                  go_meet
                  exact ⟨false, rfl, qT, hB, hvJ, hid_mk (by rw [kb, hcf2.out, s1c, s2b]; rfl)⟩
                case neg =>
                  have s2b : (tv == N.h.t) = false := by simpa using s2
                  have s2c : (tv != N.h.t) = true := by simpa using s2
                  replace s2 := hid_mk s2
                  refine tkn (i := 34) hR hS0 (h := ?_)
                  refine tkn (i := 35) hR hS0 (h := ?_)
                  refine tkn (i := 36) hR hS0 (h := ?_)
                  refine donem hR (h := ?_)
                  try simp only [Act.put]
                  go_wp2_with fail
                  go_meet
                  exact ⟨true, rfl, qT, hB, hvJ, hid_mk (by rw [kb, hcf2.out, s1c, s2b]; rfl)⟩
    case rest =>
      clear hB q4 z4 hvJ hoI hcf2 hTA
      obtain ⟨g, rfl, q30, hB, hvJ, hg3⟩ := hcut
      obtain ⟨w30, hwc⟩ : ∃ x, x = wc := ⟨wc, rfl⟩
      subst hwc
      have z30 := q30.size
      cases g
      case true =>
        have h3 := hg3.out
        simp only [Bool.and_eq_true, beq_iff_eq, Bool.not_eq_true'] at h3
        have hno := hid_mk (add_bad (hs3.out hg.out g2.out h3.1 h3.2) (by decide))
        have lY := blk14f (hB.out.at_ 1 rfl)
        have lZ := blk14f (hB.out.at_ 0 rfl)
        go_wp2
        clear lY lZ
        have kf := setN_blk (N := zeroN) (a := nilA) (hB.out.at_ 1 rfl)
        have qz := setN_below zeroN nilA q30 (by omega : w.heap.size ≤ w.heap.size + 1)
        unfold setN set14 zeroN nilA at kf qz
        have rs := blk14c kf
        refine ends_ret hQ (v := .tuple #[.agg (ndC zeroN nilA), .slice none 0 0, .int .i64 0, .int .i64 160]) (by simp [results, Tryz.results30, go_sem, rs, ndC, zeroN, nilA]) rfl ?_
        exact ⟨nilA, none, 0, 0, [], by rw [hno.out.1, hno.out.2.2.1, hno.out.2.2.2]; rfl, by rw [hno.out.1]; exact zero_ok, mgs_nil, by rw [hno.out.2.1]; rfl, Nat.le_refl _, qz⟩
      have h := hK.out
      rw [hg.out, show (N.role == 2) = true by simpa using g2.out, hg3.out] at h
      cases h
set_option maxRecDepth 100000 in
set_option maxHeartbeats 12800000 in
theorem RAdd2_any (N : Nd) (a : NdA) (k : Int) (d : ByteArray) (w : World) {B : Nat} (hBw : B ≤ w.heap.size) (hzr : rightN N = true) (hN : NdOk w B N a) (ht : Tab w) (hK : addOk N k d = true) (hk2 : ¬ k = 2) :
    Calls Tryz.prog 30 #[nodeV N a, .int .i64 k, .string d] w (RetAd w B (addN N k d) (addL N k d) (addAt N k d) (addE N k d)) := by
  obtain ⟨zg, hzg⟩ : ∃ x, addG N k d = x := ⟨_, rfl⟩
  obtain ⟨zc, hzc⟩ : ∃ x, confC N d = x := ⟨_, rfl⟩
  obtain ⟨zh, hzh⟩ : ∃ x, rightH (withH N.h ⟨N.h.t, k, d⟩) = x := ⟨_, rfl⟩
  obtain ⟨la, hla⟩ : ∃ x, lastJ N.h.l = x := ⟨_, rfl⟩
  have hG : Hid (zg = (decide (0 ≤ k) && (decide (k ≤ 2) && decide (d.size ≤ 8192)))) := by
    rw [Hid, ← hzg]
    unfold addG
    rw [hzr]
    rfl
  have hS := add_say N k d
  unfold addOk at hS
  rw [hzg, hzc, hzh] at hS
  obtain ⟨hs1, hs2, hs3, hs4, hs5⟩ := hS
  replace hs1 := hid_mk hs1
  replace hs2 := hid_mk hs2
  replace hs3 := hid_mk hs3
  replace hs4 := hid_mk hs4
  replace hs5 := hid_mk hs5
  have hR : Hid (rightN N = true) := hzr
  have hj : Hid (rightJ N.h.l = true) := (right_n hzr).1
  have hrj := right_iff.1 hj.out
  have hb0 : Hid (0 ≤ N.h.l.base ∧ N.h.l.base ≤ 1073741824) := ⟨hrj.1, hrj.2.1⟩
  have hcf : Hid (N.role = 2 → zc = ((parseR d.data.toList).isSome && (nextL (votersN N) ((parseR d.data.toList).getD []) && (inL N.id ((parseR d.data.toList).getD []) && (decide (saidN N ≤ N.commit) && ((termJ N.h.l N.commit).getD (-1) == N.h.t)))))) := fun e2 => by
    rw [← hzc, add_conf hzr e2, parse_eq]
    obtain ⟨t, hts⟩ := (commit_term hzr).2.2.2
    unfold termAtJ
    rw [if_pos hj.out, hts]
    rfl
  unfold addOk at hK
  rw [hzg, hzc] at hK
  replace hK := hid_mk hK
  replace hk2 := hid_mk hk2
  have hEW := fun (w : World) (h0 : B ≤ w.heap.size) (h : NdOk w B N a) (h2 : Tab w) => RWith_any N a ⟨N.h.t, k, d⟩ w h0 h hj.out h2
  rw [hzh] at hEW
  have hnb := nd_rn hN
  clear hrj hzr
  replace hzg := hid_mk hzg
  replace hzc := hid_mk hzc
  replace hzh := hid_mk hzh
  replace hla := hid_mk hla
  unfold nodeV at hEW ⊢
  unfold recVal at hEW
  dsimp only at hEW ⊢
  obtain ⟨w0, hw0⟩ : ∃ x, ((w.alloc (.cells (ndC N a) 30)).alloc (.cells (ndC zeroN nilA) 30)) = x := ⟨_, rfl⟩
  have hB : Hid (Bxs w.heap.size w0 [⟨w.heap.size + 1, 30, ndC zeroN nilA⟩, ⟨w.heap.size, 30, ndC N a⟩]) := by
    rw [← hw0]
    exact (((Bxs.nil w.heap.size w).add_ rfl (by omega) 30 (ndC N a)).add_ (by simp) (by omega) 30 (ndC zeroN nilA))
  have q0 : Below w.heap.size w w0 := by rw [← hw0]; go_grown
  have z0 := q0.size
  dsimp only [ndC, msC, zeroN, nilA, zeroM, nilMA] at hw0
  refine calls_of_wpQ Tryz.func30 rfl ?_
  intro Q hQ
  simp only [Tryz.ntmps30, List.size_toArray, List.length_cons, List.length_nil, Nat.reduceAdd, Nat.reduceSub, Array.replicate_succ, Array.replicate_zero, List.push_toArray, List.append_toArray, List.nil_append, List.cons_append]
  go_upto_region 1 with fail
  try rw [hw0]
  clear hw0
  have lX := blk14c (hB.out.at_ 1 rfl)
  obtain ⟨gZ, hgZ⟩ : ∃ g, w0.heap.size = g := ⟨_, rfl⟩
  have lgZ : w.heap.size ≤ gZ := by rw [← hgZ]; exact q0.size
  replace hB := hid_mk (hB.out.add_ hgZ lgZ 30 (ndC zeroN nilA))
  have q1 := q0.alloc q0.size (.cells (ndC zeroN nilA) 30)
  obtain ⟨w1, hw1⟩ : ∃ x, w0.alloc (.cells (ndC zeroN nilA) 30) = x := ⟨_, rfl⟩
  rw [hw1] at hB  q1
  try unfold ndC at hw1
  replace hw1 := hid_mk hw1
  replace hgZ := hid_mk hgZ
  unfold zeroN nilA at hw1
  dsimp only at hw1
  go_upto_region 2 with fail
  try rw [hw1.out]
  try rw [hgZ.out]
  clear lX hw1 hgZ q0 z0
  have z1 := q1.size
  go_cut [32] from 22 to 32 (fun p32 wx => ∃ g : Bool, p32 = .bool g ∧ Below w.heap.size w wx ∧ Hid (Bxs w.heap.size wx [⟨gZ, 30, ndC zeroN nilA⟩, ⟨w.heap.size + 1, 30, ndC zeroN nilA⟩, ⟨w.heap.size, 30, ndC N a⟩]) ∧ Hid (zg = !g))
  case first =>
    by_cases c1 : k < 0
    case pos =>
      have c1b : decide (k < 0) = true := by simpa using c1
      go_wp2_with fail
      go_meet
      exact ⟨true, rfl, q1, hB, by rw [hG.out, show decide (0 ≤ k) = false by simpa using c1]; rfl⟩
    have c1b : decide (k < 0) = false := by simpa using c1
    by_cases c2 : 2 < k
    case pos =>
      have c2b : decide (2 < k) = true := by simpa using c2
      go_wp2_with fail
      go_meet
      exact ⟨true, rfl, q1, hB, by rw [Hid, hG.out, show decide (k ≤ 2) = false by simpa using c2]; simp⟩
    have c2b : decide (2 < k) = false := by simpa using c2
    by_cases c3 : 8192 < d.size
    case pos =>
      have c3b : decide ((8192 : Int) < (d.size : Int)) = true := by rw [decide_eq_true_eq]; omega
      go_wp2_with fail
      go_meet
      exact ⟨true, rfl, q1, hB, by rw [Hid, hG.out, show decide (d.size ≤ 8192) = false by simpa using c3]; simp⟩
    have c3b : decide ((8192 : Int) < (d.size : Int)) = false := by rw [decide_eq_false_iff_not]; omega
    go_wp2_with fail
    go_meet
    exact ⟨false, rfl, q1, hB, by rw [hG.out, show decide (0 ≤ k) = true by simpa using c1, show decide (k ≤ 2) = true by simpa using c2, show decide (d.size ≤ 8192) = true by simpa using c3]; rfl⟩
  case rest =>
    clear hB q1 z1
    obtain ⟨g, rfl, q2, hB, hg⟩ := hcut
    obtain ⟨w2, hwc⟩ : ∃ x, x = wc := ⟨wc, rfl⟩
    subst hwc
    have z2 := q2.size
    cases g
    case true =>
      have h := hK.out
      rw [hg.out] at h
      cases h
    replace hg := hid_mk (show zg = true from hg.out)
    clear hG
    have lX := blk14f (hB.out.at_ 2 rfl)
    go_upto_if 36 with fail
    clear lX
    by_cases g2 : N.role = 2
    case neg =>
      have g2b : (N.role != 2) = true := by simpa using g2
      have h := hK.out
      rw [hg.out, show (N.role == 2) = false by simpa using g2] at h
      cases h
    have g2b : (N.role != 2) = false := by simpa using g2
    have hcf2 := hcf.out g2
    obtain ⟨PO, hPO⟩ : ∃ x, parseR d.data.toList = x := ⟨_, rfl⟩
    rw [hPO] at hcf2
    obtain ⟨ps, hps⟩ : ∃ x, PO.isSome = x := ⟨_, rfl⟩
    obtain ⟨PV, hPV⟩ : ∃ x, PO.getD [] = x := ⟨_, rfl⟩
    have hPA := fun (w : World) => refParse_any d w
    rw [hPO] at hPA
    unfold RetQR at hPA
    rw [hps, hPV] at hcf2 hPA
    have hOF := fun (w : World) (h : NdOk w B N a) => refOf_anyC N.h.t N.h.v N.h.l a.R.A a.R.n a.R.c N.h.s a.V.A a.V.n a.V.c N.h.vs w B B (by omega) (by omega) h.recs h.vs
    have hvo : ofF N.h.l.base 0 (N.h.vs, N.h.l.base) N.h.l.rs = (votersN N, saidN N) := rfl
    rw [hvo] at hOF
    unfold RetOfC hardV at hOF
    dsimp only at hOF
    obtain ⟨VN, hVN⟩ : ∃ x, votersN N = x := ⟨_, rfl⟩
    obtain ⟨sd, hsd⟩ : ∃ x, saidN N = x := ⟨_, rfl⟩
    rw [hVN, hsd] at hcf2 hOF
    have hTA := fun (w : World) (h : NdOk w B N a) => refTerm_any N.h.l N.commit a.R.A a.R.n a.R.c w (by omega) h.recs hb0.out.1 hb0.out.2
    unfold logV at hTA
    obtain ⟨tv, htv⟩ : ∃ x, (termJ N.h.l N.commit).getD (-1) = x := ⟨_, rfl⟩
    rw [htv] at hcf2 hTA
    obtain ⟨zn, hzn⟩ : ∃ x, nextL VN PV = x := ⟨_, rfl⟩
    obtain ⟨zi, hzi⟩ : ∃ x, inL N.id PV = x := ⟨_, rfl⟩
    rw [hzn, hzi] at hcf2
    replace g2 := hid_mk g2
    replace hcf2 := hid_mk hcf2
    replace hPO := hid_mk hPO
    replace hps := hid_mk hps
    replace hPV := hid_mk hPV
    replace hVN := hid_mk hVN
    replace hsd := hid_mk hsd
    replace htv := hid_mk htv
    replace hzn := hid_mk hzn
    replace hzi := hid_mk hzi
    clear hvo hcf
    have lX := blk14c (hB.out.at_ 2 rfl)
    go_wp2_with fail
    clear lX
    refine (hOF _ (hN.to q2)).mono ?_
    rintro e w3 ⟨OA, on, oc, rfl, hoI, hon, _, hb1⟩
    have q3 := (after (w := w) hb1 q2).1
    have z3 := q3.size
    replace hB := hid_mk (hB.out.keep hb1)
    clear hb1 q2 z2
    replace hoI := hid_mk hoI
    have lX := blk14c (hB.out.at_ 2 rfl)
    go_wp2_with fail
    clear lX
    refine (hPA _).mono ?_
    rintro e w4 ⟨PA, pn, pc, rfl, hvI, hpc, hpn, hb1⟩
    have q4 := (after (w := w) hb1 q3).1
    have z4 := q4.size
    replace hB := hid_mk (hB.out.keep hb1)
    replace hoI := hid_mk (hoI.out.to hb1)
    clear hb1 q3 z3
    clear hPA hOF
    have lX := blk14f (hB.out.at_ 2 rfl)
    go_upto_region 8 with fail
    clear lX
    have hvJ : Hid (ps = true → Ints w4 0 PA pn PV) := hvI
    clear hvI
    go_cut [85] from 49 to 85 (fun p85 wx => ∃ g : Bool, p85 = .bool g ∧ Below w.heap.size w wx ∧ Hid (Bxs w.heap.size wx [⟨gZ, 30, ndC zeroN nilA⟩, ⟨w.heap.size + 1, 30, ndC zeroN nilA⟩, ⟨w.heap.size, 30, ndC N a⟩]) ∧ Hid (ps = true → Ints wx 0 PA pn PV) ∧ Hid ((k == 2 && !zc) = g))
    case first =>
      refine regm (fun w' => AtN w' w.heap.size N a) 37 37 [(0, 0), (1, 1), (2, 2), (4, 4), (12, 12), (20, 20), (32, 32), (32, 32), (224, 224), (288, 288), (548, 548), (1284, 1028), (2048, 2048), (2048, 2048), (10240, 10240), (22528, 22528), (34816, 34816), (67588, 67588), (163844, 131076), (262144, 262144), (262144, 262144), (1310720, 1310720), (2883584, 2883584), (4456452, 4456452), (8650756, 8388612), (16777216, 16777216), (50331648, 50331648), (83886080, 83886080), (16777216, 16777216), (285212672, 285212672), (687865856, 687865856), (16777216, 16777216), (2164260864, 2164260864), (4311744512, 4311744512), (9680453632, 9680453632), (17196646404, 17196646404), (34359738372, 34359738372)] (by exact (hB.out.at_ 2 rfl).atN) (fun hS0 hR => ?_)
      replace hB := hid_mk hB.out.drew
      replace hvJ : Hid (ps = true → Ints w4.drew 0 PA pn PV) := fun e => (hvJ.out e).to (show Below w4.heap.size w4 w4.drew by go_grown)
      replace hoI := hid_mk (hoI.out.to (show Below w4.heap.size w4 w4.drew by go_grown))
      have qd : Below w.heap.size w w4.drew := by go_grown
      obtain ⟨wd, hwd⟩ : ∃ x, w4.drew = x := ⟨_, rfl⟩
      rw [hwd] at hS0 hvJ hB hoI qd ⊢
      clear hwd q4 z4
      have zd := qd.size
      refine tkn (i := 0) hR hS0 (h := ?_)
      by_cases kk : k = 2
      case neg =>
        have kb : (k == 2) = false := by simpa using kk
        replace kk := hid_mk kk
        refine tkn (i := 1) hR hS0 (h := ?_)
        refine tkn (i := 2) hR hS0 (h := ?_)
        refine skm (i := 3) hR hS0 (h := ?_)
        refine skm (i := 4) hR hS0 (h := ?_)
        simp only [Act.put]
        refine skm (i := 5) hR hS0 (h := ?_)
        refine skm (i := 6) hR hS0 (h := ?_)
        refine skm (i := 7) hR hS0 (h := ?_)
        refine skm (i := 8) hR hS0 (h := ?_)
        refine skm (i := 9) hR hS0 (h := ?_)
        simp only [Act.put]
        refine skm (i := 10) hR hS0 (h := ?_)
        refine skm (i := 11) hR hS0 (h := ?_)
        refine skm (i := 12) hR hS0 (h := ?_)
        refine skm (i := 13) hR hS0 (h := ?_)
        refine skm (i := 14) hR hS0 (h := ?_)
        simp only [Act.put]
        refine skm (i := 15) hR hS0 (h := ?_)
        refine skm (i := 16) hR hS0 (h := ?_)
        refine skm (i := 17) hR hS0 (h := ?_)
        refine skm (i := 18) hR hS0 (h := ?_)
        refine skm (i := 19) hR hS0 (h := ?_)
        simp only [Act.put]
        refine skm (i := 20) hR hS0 (h := ?_)
        refine skm (i := 21) hR hS0 (h := ?_)
        refine skm (i := 22) hR hS0 (h := ?_)
        refine skm (i := 23) hR hS0 (h := ?_)
        refine skm (i := 24) hR hS0 (h := ?_)
        simp only [Act.put]
        refine skm (i := 25) hR hS0 (h := ?_)
        refine skm (i := 26) hR hS0 (h := ?_)
        refine skm (i := 27) hR hS0 (h := ?_)
        refine skm (i := 28) hR hS0 (h := ?_)
        refine skm (i := 29) hR hS0 (h := ?_)
        simp only [Act.put]
        refine skm (i := 30) hR hS0 (h := ?_)
        refine skm (i := 31) hR hS0 (h := ?_)
        refine skm (i := 32) hR hS0 (h := ?_)
        refine skm (i := 33) hR hS0 (h := ?_)
        refine skm (i := 34) hR hS0 (h := ?_)
        simp only [Act.put]
        refine skm (i := 35) hR hS0 (h := ?_)
        refine tkn (i := 36) hR hS0 (h := ?_)
        refine donem hR (h := ?_)
        try simp only [Act.put]
        go_wp2_with fail
        go_meet
        exact ⟨false, rfl, qd, hB, hvJ, hid_mk (by rw [kb]; rfl)⟩
      case pos =>
        exact absurd kk hk2.out
    case rest =>
      clear hB q4 z4 hvJ hoI hcf2 hTA
      obtain ⟨g, rfl, q30, hB, hvJ, hg3⟩ := hcut
      obtain ⟨w30, hwc⟩ : ∃ x, x = wc := ⟨wc, rfl⟩
      subst hwc
      have z30 := q30.size
      cases g
      case true =>
        have h := hK.out
        rw [hg.out, show (N.role == 2) = true by simpa using g2.out, hg3.out] at h
        cases h
      have hok : (zg && (N.role == 2 && !(k == 2 && !zc))) = true := hK.out
      clear hvJ
      have lX := blk14c (hB.out.at_ 2 rfl)
      go_wp2_with fail
      clear lX
      refine (hEW _ (by omega) (hN.to q30) (ht.to q30)).mono ?_
      rintro e w31 ⟨aW, rfl, hokW, hb1⟩
      have q31 := (after (w := w) hb1 q30).1
      have z31 := q31.size
      replace hB := hid_mk (hB.out.keep hb1)
      clear hb1 q30 z30
      obtain ⟨NW, hNW⟩ : ∃ x, hdN N (withH N.h ⟨N.h.t, k, d⟩) = x := ⟨_, rfl⟩
      rw [hNW] at hokW
      try rw [hNW]
      replace hokW := hid_mk hokW
      unfold nodeV
      clear hEW
      have lX := blk14c (hB.out.at_ 2 rfl)
      obtain ⟨gM, hgM⟩ : ∃ g, w31.heap.size = g := ⟨_, rfl⟩
      have lgM : w.heap.size ≤ gM := by rw [← hgM]; exact q31.size
      replace hB := hid_mk (hB.out.add_ hgM lgM 30 (ndC NW aW))
      replace hokW := hid_mk (hokW.out.to ((Below.refl _ w31).alloc (Nat.le_refl _) (.cells (ndC NW aW) 30)))
      have q32 := q31.alloc q31.size (.cells (ndC NW aW) 30)
      obtain ⟨w32, hw32⟩ : ∃ x, w31.alloc (.cells (ndC NW aW) 30) = x := ⟨_, rfl⟩
      rw [hw32] at hB hokW q32
      try unfold ndC at hw32
      replace hw32 := hid_mk hw32
      replace hgM := hid_mk hgM
      go_upto_region 11 with fail
      try rw [hw32.out]
      try rw [hgM.out]
      clear lX hw32 hgM q31 z31
      have z32 := q32.size
      cases zh
      case false =>
        have hno := hid_mk (add_bad (hs4.out hok rfl) (by decide))
        have lY := blk14f (hB.out.at_ 2 rfl)
        have lZ := blk14f (hB.out.at_ 1 rfl)
        go_wp2
        clear lY lZ
        have kf := setN_blk (N := zeroN) (a := nilA) (hB.out.at_ 2 rfl)
        have qz := setN_below zeroN nilA q32 (by omega : w.heap.size ≤ w.heap.size + 1)
        unfold setN set14 zeroN nilA at kf qz
        have rs := blk14c kf
        refine ends_ret hQ (v := .tuple #[.agg (ndC zeroN nilA), .slice none 0 0, .int .i64 0, .int .i64 130]) (by simp [results, Tryz.results30, go_sem, rs, ndC, zeroN, nilA]) rfl ?_
        exact ⟨nilA, none, 0, 0, [], by rw [hno.out.1, hno.out.2.2.1, hno.out.2.2.2]; rfl, by rw [hno.out.1]; exact zero_ok, mgs_nil, by rw [hno.out.2.1]; rfl, Nat.le_refl _, qz⟩
      have h0 := hs5.out hok rfl
      have hfin := hid_mk (add_good h0)
      obtain ⟨hWr, hWl⟩ := add_mid (k := k) (d := d) hR.out hzh.out
      rw [hNW] at hWr hWl
      obtain ⟨hAr, hAl⟩ := add_base h0
      have hAe : addB N k d = NW := by
        unfold addB
        rw [hNW]
        rw [if_neg (by simpa using hk2.out)]
      obtain ⟨N2, hN2⟩ : ∃ x, addB N k d = x := ⟨_, rfl⟩
      rw [hN2] at hAr hAl hAe hfin
      obtain ⟨N3, hN3⟩ : ∃ x, sureN N2 = x := ⟨_, rfl⟩
      have hs3 := sure_same N2
      rw [hN3] at hs3 hfin
      have h3r : Hid (rightN N3 = true) := by rw [← hN3]; exact sure_right hAr
      have h3l : Hid (lastJ N3.h.l = la + 1) := by rw [Hid, hs3.2.1, hAl, hla.out]
      rw [hla.out] at hWl hfin
      have hidW : Hid (NW.id = N.id ∧ NW.ps = N.ps) := by rw [← hNW]; exact ⟨rfl, rfl⟩
      replace hNW := hid_mk hNW
      replace hN2 := hid_mk hN2
      replace hN3 := hid_mk hN3
      replace hs3 := hid_mk hs3
      replace hWr := hid_mk hWr
      replace hWl := hid_mk hWl
      replace hAr := hid_mk hAr
      replace hAl := hid_mk hAl
      replace h0 := hid_mk h0
      replace hok := hid_mk hok
      have kb : (k == 2) = false := by simpa using hk2.out
      have e9 : NW = N2 := hAe.symm
      subst e9
      clear hAe
      have lX := blk14f (hB.out.at_ 3 rfl)
      go_upto_region 25 with fail
      clear lX
      have lM := blk14c (hB.out.at_ 0 rfl)
      go_wp2_with fail
      clear lM
      refine (RSureN_any NW aW _ hokW.out hAr.out).mono ?_
      rw [hN3.out]
      rintro e w33 ⟨rfl, hb1⟩
      have q33 := (after (w := w) hb1 q32).1
      have z33 := q33.size
      replace hB := hid_mk (hB.out.keep hb1)
      replace hokW := hid_mk (hokW.out.to hb1)
      clear hb1 q32 z32
      unfold nodeV
      have lM := blk14f (hB.out.at_ 0 rfl)
      go_upto_region 26 with fail
      clear lM
      have q34 := setN_below N3 aW q33 (by omega : w.heap.size ≤ gM)
      have hokWn := hid_mk (hokW.out.kr (setN_kr (B := B) N3 aW (hB.out.at_ 0 rfl) (by dsimp only; omega)))
      have hBn := hB.out.setN 0 rfl N3 aW
      obtain ⟨w34, hwz⟩ : ∃ x, setN w33 (gM) N3 aW = x := ⟨_, rfl⟩
      rw [hwz] at q34 hokWn hBn
      unfold setN set14 at hwz
      try rw [hwz]
      clear hwz
      replace hB : Hid (Bxs w.heap.size w34 [⟨gM, 30, ndC N3 aW⟩, ⟨gZ, 30, ndC zeroN nilA⟩, ⟨w.heap.size + 1, 30, ndC zeroN nilA⟩, ⟨w.heap.size, 30, ndC N a⟩]) := hid_mk hBn
      clear hBn
      replace hokW := hid_mk hokWn
      clear hokWn
      have z34 := q34.size
      clear q33 z33
      replace hokW : Hid (NdOk w34 B N3 aW) := hid_mk (nd_like hokW.out hs3.out.2.1 hs3.out.2.2.2.2.2.1 hs3.out.2.2.2.2.2.2.1)
      refine regm (fun w' => AtN w' gM N3 aW) 9 9 [(0, 0), (0, 0), (2, 2), (0, 0), (12, 8), (17, 1), (39, 4), (127, 16), (255, 0)] (by exact (hB.out.at_ 0 rfl).atN) (fun hS0 hR => ?_)
      replace hB := hid_mk hB.out.drew
      replace hokW := hid_mk (hokW.out.to (show Below w34.heap.size w34 w34.drew by go_grown))
      have qd : Below w.heap.size w w34.drew := by go_grown
      obtain ⟨wd, hwd⟩ : ∃ x, w34.drew = x := ⟨_, rfl⟩
      rw [hwd] at hS0 hB hokW qd ⊢
      clear hwd q34 z34
      have zd := qd.size
      refine tkn (i := 0) hR hS0 (h := ?_)
      refine tkn (i := 1) hR hS0 (h := ?_)
      refine tkn (i := 3) hR hS0 (h := ?_)
      refine onem (i := 2) hR (h := fun K hK => ?_)
      go_simp
      refine (RAll_any N3 aW _ (Nat.le_trans hBw qd.size) hokW.out h3r.out).mono ?_
      rintro e wS ⟨LA, ln, lc, pm, rfl, hMg, hpm, hlc, hb1⟩
      have qS := (after (w := w) hb1 qd).1
      replace hB := hid_mk (hB.out.keep hb1)
      replace hokW := hid_mk (hokW.out.to hb1)
      replace hMg := hid_mk hMg
      replace hpm := hid_mk hpm
      clear hb1 qd zd
      have hS1 := (hB.out.at_ 0 rfl).atN
      refine hK.out _ _ (fun _ => hS1) ?_
      clear hK K hS0
      have hS0 := hS1
      clear hS1
      refine onem (i := 4) hR (h := fun K hK => ?_)
      go_simp
      refine (RLastN_any N3 aW _ hokW.out (right_n h3r.out).1).mono ?_
      rw [h3l.out]
      rintro e wL ⟨rfl, hb1⟩
      have qL := (after (w := w) hb1 qS).1
      replace hB := hid_mk (hB.out.keep hb1)
      replace hokW := hid_mk (hokW.out.to hb1)
      replace hMg := hid_mk (hMg.out.to hb1)
      clear hb1 qS
      have hS1 := (hB.out.at_ 0 rfl).atN
      refine hK.out _ _ (fun _ => hS1) ?_
      clear hK K hS0
      have hS0 := hS1
      clear hS1
      have lY := blk14f (hB.out.at_ 2 rfl)
      refine onem (i := 5) hR (h := fun K hK => ?_)
      go_simp
      clear lY
      have hkr := setN_kr (B := B) N3 aW (hB.out.at_ 2 rfl) (by dsimp only; omega)
      replace hMg := hid_mk (mgs_setN hMg.out (hB.out.at_ 2 rfl) (by dsimp only; omega) N3 aW)
      replace hokW := hid_mk (hokW.out.kr hkr)
      clear hkr
      have qz := setN_below N3 aW qL (by omega : w.heap.size ≤ w.heap.size + 1)
      have hBn := hB.out.setN 2 rfl N3 aW
      obtain ⟨wz, hwz⟩ : ∃ x, setN wL (w.heap.size + 1) N3 aW = x := ⟨_, rfl⟩
      rw [hwz] at hBn hokW hMg qz
      replace hB : Hid (Bxs w.heap.size wz [⟨gM, 30, ndC N3 aW⟩, ⟨gZ, 30, ndC zeroN nilA⟩, ⟨w.heap.size + 1, 30, ndC N3 aW⟩, ⟨w.heap.size, 30, ndC N a⟩]) := hid_mk hBn
      clear hBn
      unfold setN set14 at hwz
      rw [hwz]
      clear hwz
      have hS1 := (hB.out.at_ 0 rfl).atN
      refine hK.out _ _ (fun _ => hS1) ?_
      clear hK K hS0
      have hS0 := hS1
      clear hS1
      refine onem (i := 6) hR (h := fun K hK => ?_)
      go_simp
      have hS1 := (hB.out.at_ 0 rfl).atN
      refine hK.out _ _ (fun _ => hS1) ?_
      clear hK K hS0
      have hS0 := hS1
      clear hS1
      refine onem (i := 7) hR (h := fun K hK => ?_)
      go_simp
      have hS1 := (hB.out.at_ 0 rfl).atN
      refine hK.out _ _ (fun _ => hS1) ?_
      clear hK K hS0
      have hS0 := hS1
      clear hS1
      refine onem (i := 8) hR (h := fun K hK => ?_)
      go_simp
      have hS1 := (hB.out.at_ 0 rfl).atN
      refine hK.out _ _ (fun _ => hS1) ?_
      clear hK K hS0
      have hS0 := hS1
      clear hS1
      refine donem hR (h := ?_)
      try simp only [Act.put]
      have lY := blk14c (hB.out.at_ 2 rfl)
      go_wp2
      refine ends_ret hQ (v := .tuple #[.agg (ndC N3 aW), .slice LA ln lc, .int .i64 (la + 1), .int .i64 0]) (by simp [results, Tryz.results30, go_sem, lY, ndC]) rfl ?_
      exact ⟨aW, LA, ln, lc, pm, by rw [hfin.out.1, hfin.out.2.2.1, hfin.out.2.2.2]; rfl, by rw [hfin.out.1]; exact hokW.out, hMg.out, by rw [hfin.out.2.1]; exact hpm.out, hlc, qz⟩
end Go.Proofs.YtncdjmpdbinanaaGreatDoor
