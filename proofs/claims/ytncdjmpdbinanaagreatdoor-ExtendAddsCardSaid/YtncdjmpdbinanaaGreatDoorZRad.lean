/-
  WHAT IS PROVED HERE: what the reference's Add hands back of a node that may be. Conditions: the slices are of at most 2^47 bytes; the library's table stands.
-/
import Derived.Test.YtncdjmpdbinanaaGreatDoorZGEad
import Derived.Test.YtncdjmpdbinanaaGreatDoorZGNd
import Derived.Test.YtncdjmpdbinanaaGreatDoorZGSr
import Derived.Test.YtncdjmpdbinanaaGreatDoorZGRon
import Derived.Test.YtncdjmpdbinanaaGreatDoorZRew
import Derived.Test.YtncdjmpdbinanaaGreatDoorZGQrm
import Derived.Test.YtncdjmpdbinanaaGreatDoorZRad1
import Derived.Deep.DeepCutAuto
namespace Go.Proofs.YtncdjmpdbinanaaGreatDoor
open Go.RowKit

set_option maxRecDepth 100000 in
set_option maxHeartbeats 12800000 in
theorem RAdd3_any (N : Nd) (a : NdA) (k : Int) (d : ByteArray) (w : World) {B : Nat} (hBw : B ≤ w.heap.size) (hzr : rightN N = true) (hN : NdOk w B N a) (ht : Tab w) (hK : addOk N k d = true) (hk2 : k = 2) :
    Calls Tryz.prog 30 #[nodeV N a, .int .i64 k, .string d] w (RetAd w B (addN N k d) (addL N k d) (addAt N k d) (addE N k d)) := by
  obtain ⟨zg, hzg⟩ : ∃ x, addG N k d = x := ⟨_, rfl⟩
  obtain ⟨zc, hzc⟩ : ∃ x, confC N d = x := ⟨_, rfl⟩
  obtain ⟨zh, hzh⟩ : ∃ x, rightH (withH N.h ⟨N.h.t, k, d⟩) = x := ⟨_, rfl⟩
  obtain ⟨la, hla⟩ : ∃ x, lastJ N.h.l = x := ⟨_, rfl⟩
  have hG : Hid (zg = (decide (0 ≤ k) && (decide (k ≤ 2) && decide (d.size ≤ 8192)))) := by
    rw [Hid, ← hzg]
    unfold addG
    rw [hzr]
    rfl
  have hS := add_say N k d
  unfold addOk at hS
  rw [hzg, hzc, hzh] at hS
  obtain ⟨hs1, hs2, hs3, hs4, hs5⟩ := hS
  replace hs1 := hid_mk hs1
  replace hs2 := hid_mk hs2
  replace hs3 := hid_mk hs3
  replace hs4 := hid_mk hs4
  replace hs5 := hid_mk hs5
  have hR : Hid (rightN N = true) := hzr
  have hj : Hid (rightJ N.h.l = true) := (right_n hzr).1
  have hrj := right_iff.1 hj.out
  have hb0 : Hid (0 ≤ N.h.l.base ∧ N.h.l.base ≤ 1073741824) := ⟨hrj.1, hrj.2.1⟩
  have hcf : Hid (N.role = 2 → zc = ((parseR d.data.toList).isSome && (nextL (votersN N) ((parseR d.data.toList).getD []) && (inL N.id ((parseR d.data.toList).getD []) && (decide (saidN N ≤ N.commit) && ((termJ N.h.l N.commit).getD (-1) == N.h.t)))))) := fun e2 => by
    rw [← hzc, add_conf hzr e2, parse_eq]
    obtain ⟨t, hts⟩ := (commit_term hzr).2.2.2
    unfold termAtJ
    rw [if_pos hj.out, hts]
    rfl
  unfold addOk at hK
  rw [hzg, hzc] at hK
  replace hK := hid_mk hK
  replace hk2 := hid_mk hk2
  have hEW := fun (w : World) (h0 : B ≤ w.heap.size) (h : NdOk w B N a) (h2 : Tab w) => RWith_any N a ⟨N.h.t, k, d⟩ w h0 h hj.out h2
  rw [hzh] at hEW
  have hnb := nd_rn hN
  clear hrj hzr
  replace hzg := hid_mk hzg
  replace hzc := hid_mk hzc
  replace hzh := hid_mk hzh
  replace hla := hid_mk hla
  unfold nodeV at hEW ⊢
  unfold recVal at hEW
  dsimp only at hEW ⊢
  obtain ⟨w0, hw0⟩ : ∃ x, ((w.alloc (.cells (ndC N a) 30)).alloc (.cells (ndC zeroN nilA) 30)) = x := ⟨_, rfl⟩
  have hB : Hid (Bxs w.heap.size w0 [⟨w.heap.size + 1, 30, ndC zeroN nilA⟩, ⟨w.heap.size, 30, ndC N a⟩]) := by
    rw [← hw0]
    exact (((Bxs.nil w.heap.size w).add_ rfl (by omega) 30 (ndC N a)).add_ (by simp) (by omega) 30 (ndC zeroN nilA))
  have q0 : Below w.heap.size w w0 := by rw [← hw0]; go_grown
  have z0 := q0.size
  dsimp only [ndC, msC, zeroN, nilA, zeroM, nilMA] at hw0
  refine calls_of_wpQ Tryz.func30 rfl ?_
  intro Q hQ
  simp only [Tryz.ntmps30, List.size_toArray, List.length_cons, List.length_nil, Nat.reduceAdd, Nat.reduceSub, Array.replicate_succ, Array.replicate_zero, List.push_toArray, List.append_toArray, List.nil_append, List.cons_append]
  go_upto_region 1 with fail
  try rw [hw0]
  clear hw0
  have lX := blk14c (hB.out.at_ 1 rfl)
  obtain ⟨gZ, hgZ⟩ : ∃ g, w0.heap.size = g := ⟨_, rfl⟩
  have lgZ : w.heap.size ≤ gZ := by rw [← hgZ]; exact q0.size
  replace hB := hid_mk (hB.out.add_ hgZ lgZ 30 (ndC zeroN nilA))
  have q1 := q0.alloc q0.size (.cells (ndC zeroN nilA) 30)
  obtain ⟨w1, hw1⟩ : ∃ x, w0.alloc (.cells (ndC zeroN nilA) 30) = x := ⟨_, rfl⟩
  rw [hw1] at hB  q1
  try unfold ndC at hw1
  replace hw1 := hid_mk hw1
  replace hgZ := hid_mk hgZ
  unfold zeroN nilA at hw1
  dsimp only at hw1
  go_upto_region 2 with fail
  try rw [hw1.out]
  try rw [hgZ.out]
  clear lX hw1 hgZ q0 z0
  have z1 := q1.size
  go_cut [32] from 22 to 32 (fun p32 wx => ∃ g : Bool, p32 = .bool g ∧ Below w.heap.size w wx ∧ Hid (Bxs w.heap.size wx [⟨gZ, 30, ndC zeroN nilA⟩, ⟨w.heap.size + 1, 30, ndC zeroN nilA⟩, ⟨w.heap.size, 30, ndC N a⟩]) ∧ Hid (zg = !g))
  case first =>
    by_cases c1 : k < 0
    case pos =>
      have c1b : decide (k < 0) = true := by simpa using c1
      go_wp2_with fail
      go_meet
      exact ⟨true, rfl, q1, hB, by rw [hG.out, show decide (0 ≤ k) = false by simpa using c1]; rfl⟩
    have c1b : decide (k < 0) = false := by simpa using c1
    by_cases c2 : 2 < k
    case pos =>
      have c2b : decide (2 < k) = true := by simpa using c2
      go_wp2_with fail
      go_meet
      exact ⟨true, rfl, q1, hB, by rw [Hid, hG.out, show decide (k ≤ 2) = false by simpa using c2]; simp⟩
    have c2b : decide (2 < k) = false := by simpa using c2
    by_cases c3 : 8192 < d.size
    case pos =>
      have c3b : decide ((8192 : Int) < (d.size : Int)) = true := by rw [decide_eq_true_eq]; omega
      go_wp2_with fail
      go_meet
      exact ⟨true, rfl, q1, hB, by rw [Hid, hG.out, show decide (d.size ≤ 8192) = false by simpa using c3]; simp⟩
    have c3b : decide ((8192 : Int) < (d.size : Int)) = false := by rw [decide_eq_false_iff_not]; omega
    go_wp2_with fail
    go_meet
    exact ⟨false, rfl, q1, hB, by rw [hG.out, show decide (0 ≤ k) = true by simpa using c1, show decide (k ≤ 2) = true by simpa using c2, show decide (d.size ≤ 8192) = true by simpa using c3]; rfl⟩
  case rest =>
    clear hB q1 z1
    obtain ⟨g, rfl, q2, hB, hg⟩ := hcut
    obtain ⟨w2, hwc⟩ : ∃ x, x = wc := ⟨wc, rfl⟩
    subst hwc
    have z2 := q2.size
    cases g
    case true =>
      have h := hK.out
      rw [hg.out] at h
      cases h
    replace hg := hid_mk (show zg = true from hg.out)
    clear hG
    have lX := blk14f (hB.out.at_ 2 rfl)
    go_upto_if 36 with fail
    clear lX
    by_cases g2 : N.role = 2
    case neg =>
      have g2b : (N.role != 2) = true := by simpa using g2
      have h := hK.out
      rw [hg.out, show (N.role == 2) = false by simpa using g2] at h
      cases h
    have g2b : (N.role != 2) = false := by simpa using g2
    have hcf2 := hcf.out g2
    obtain ⟨PO, hPO⟩ : ∃ x, parseR d.data.toList = x := ⟨_, rfl⟩
    rw [hPO] at hcf2
    obtain ⟨ps, hps⟩ : ∃ x, PO.isSome = x := ⟨_, rfl⟩
    obtain ⟨PV, hPV⟩ : ∃ x, PO.getD [] = x := ⟨_, rfl⟩
    have hPA := fun (w : World) => refParse_any d w
    rw [hPO] at hPA
    unfold RetQR at hPA
    rw [hps, hPV] at hcf2 hPA
    have hOF := fun (w : World) (h : NdOk w B N a) => refOf_anyC N.h.t N.h.v N.h.l a.R.A a.R.n a.R.c N.h.s a.V.A a.V.n a.V.c N.h.vs w B B (by omega) (by omega) h.recs h.vs
    have hvo : ofF N.h.l.base 0 (N.h.vs, N.h.l.base) N.h.l.rs = (votersN N, saidN N) := rfl
    rw [hvo] at hOF
    unfold RetOfC hardV at hOF
    dsimp only at hOF
    obtain ⟨VN, hVN⟩ : ∃ x, votersN N = x := ⟨_, rfl⟩
    obtain ⟨sd, hsd⟩ : ∃ x, saidN N = x := ⟨_, rfl⟩
    rw [hVN, hsd] at hcf2 hOF
    have hTA := fun (w : World) (h : NdOk w B N a) => refTerm_any N.h.l N.commit a.R.A a.R.n a.R.c w (by omega) h.recs hb0.out.1 hb0.out.2
    unfold logV at hTA
    obtain ⟨tv, htv⟩ : ∃ x, (termJ N.h.l N.commit).getD (-1) = x := ⟨_, rfl⟩
    rw [htv] at hcf2 hTA
    obtain ⟨zn, hzn⟩ : ∃ x, nextL VN PV = x := ⟨_, rfl⟩
    obtain ⟨zi, hzi⟩ : ∃ x, inL N.id PV = x := ⟨_, rfl⟩
    rw [hzn, hzi] at hcf2
    replace g2 := hid_mk g2
    replace hcf2 := hid_mk hcf2
    replace hPO := hid_mk hPO
    replace hps := hid_mk hps
    replace hPV := hid_mk hPV
    replace hVN := hid_mk hVN
    replace hsd := hid_mk hsd
    replace htv := hid_mk htv
    replace hzn := hid_mk hzn
    replace hzi := hid_mk hzi
    clear hvo hcf
    have lX := blk14c (hB.out.at_ 2 rfl)
    go_wp2_with fail
    clear lX
    refine (hOF _ (hN.to q2)).mono ?_
    rintro e w3 ⟨OA, on, oc, rfl, hoI, hon, _, hb1⟩
    have q3 := (after (w := w) hb1 q2).1
    have z3 := q3.size
    replace hB := hid_mk (hB.out.keep hb1)
    clear hb1 q2 z2
    replace hoI := hid_mk hoI
    have lX := blk14c (hB.out.at_ 2 rfl)
    go_wp2_with fail
    clear lX
    refine (hPA _).mono ?_
    rintro e w4 ⟨PA, pn, pc, rfl, hvI, hpc, hpn, hb1⟩
    have q4 := (after (w := w) hb1 q3).1
    have z4 := q4.size
    replace hB := hid_mk (hB.out.keep hb1)
    replace hoI := hid_mk (hoI.out.to hb1)
    clear hb1 q3 z3
    clear hPA hOF
    have lX := blk14f (hB.out.at_ 2 rfl)
    go_upto_region 8 with fail
    clear lX
    have hvJ : Hid (ps = true → Ints w4 0 PA pn PV) := hvI
    clear hvI
    have hzcT : Hid (zc = true) := by
      have h := hK.out
      rw [hg.out, show (N.role == 2) = true by simpa using g2.out, show (k == 2) = true by simpa using hk2.out] at h
      cases zc
      · cases h
      · rfl
    go_cut [85] from 49 to 85 (fun p85 wx => ∃ g : Bool, p85 = .bool g ∧ Below w.heap.size w wx ∧ Hid (Bxs w.heap.size wx [⟨gZ, 30, ndC zeroN nilA⟩, ⟨w.heap.size + 1, 30, ndC zeroN nilA⟩, ⟨w.heap.size, 30, ndC N a⟩]) ∧ Hid (ps = true → Ints wx 0 PA pn PV) ∧ Hid ((k == 2 && !zc) = g))
    case first =>
      refine regm (fun w' => AtN w' w.heap.size N a) 37 37 [(0, 0), (1, 1), (2, 2), (4, 4), (12, 12), (20, 20), (32, 32), (32, 32), (224, 224), (288, 288), (548, 548), (1284, 1028), (2048, 2048), (2048, 2048), (10240, 10240), (22528, 22528), (34816, 34816), (67588, 67588), (163844, 131076), (262144, 262144), (262144, 262144), (1310720, 1310720), (2883584, 2883584), (4456452, 4456452), (8650756, 8388612), (16777216, 16777216), (50331648, 50331648), (83886080, 83886080), (16777216, 16777216), (285212672, 285212672), (687865856, 687865856), (16777216, 16777216), (2164260864, 2164260864), (4311744512, 4311744512), (9680453632, 9680453632), (17196646404, 17196646404), (34359738372, 34359738372)] (by exact (hB.out.at_ 2 rfl).atN) (fun hS0 hR => ?_)
      replace hB := hid_mk hB.out.drew
      replace hvJ : Hid (ps = true → Ints w4.drew 0 PA pn PV) := fun e => (hvJ.out e).to (show Below w4.heap.size w4 w4.drew by go_grown)
      replace hoI := hid_mk (hoI.out.to (show Below w4.heap.size w4 w4.drew by go_grown))
      have qd : Below w.heap.size w w4.drew := by go_grown
      obtain ⟨wd, hwd⟩ : ∃ x, w4.drew = x := ⟨_, rfl⟩
      rw [hwd] at hS0 hvJ hB hoI qd ⊢
      clear hwd q4 z4
      have zd := qd.size
      refine tkn (i := 0) hR hS0 (h := ?_)
      by_cases kk : k = 2
      case neg =>
        exact absurd hk2.out kk
      case pos =>
        have kb : (k == 2) = true := by simpa using kk
        replace kk := hid_mk kk
        refine tkn (i := 1) hR hS0 (h := ?_)
        refine tkn (i := 2) hR hS0 (h := ?_)
        refine tkn (i := 3) hR hS0 (h := ?_)
        cases ps
        case false =>
          have h := hcf2.out
          rw [hzcT.out] at h
          simp at h
        case true =>
          refine tkn (i := 4) hR hS0 (h := ?_)
          simp only [Act.put]
          refine tkn (i := 5) hR hS0 (h := ?_)
          refine tkn (i := 6) hR hS0 (h := ?_)
          refine tkn (i := 7) hR hS0 (h := ?_)
          refine onem (i := 8) hR (h := fun K hK => ?_)
          go_simp
          refine (refNext_any OA on oc VN PA pn pc PV _ B (by omega) (by omega) hoI.out ((hvJ.out rfl).more (Nat.zero_le B))).mono ?_
          rw [hzn.out]
          rintro e wN ⟨rfl, hwN⟩
          subst hwN
          have hS1 := (hB.out.at_ 2 rfl).atN
          refine hK.out _ _ (fun _ => hS1) ?_
          clear hK K hS0
          have hS0 := hS1
          clear hS1
          refine tkn (i := 9) hR hS0 (h := ?_)
          cases zn
          case false =>
            have h := hcf2.out
            rw [hzcT.out] at h
            simp at h
          case true =>
            refine tkn (i := 10) hR hS0 (h := ?_)
            simp only [Act.put]
            refine tkn (i := 11) hR hS0 (h := ?_)
            refine tkn (i := 12) hR hS0 (h := ?_)
            refine tkn (i := 13) hR hS0 (h := ?_)
            refine tkn (i := 14) hR hS0 (h := ?_)
            refine onem (i := 15) hR (h := fun K hK => ?_)
            go_simp
            refine (In_any PA pn pc PV N.id _ 0 (by omega) (hvJ.out rfl)).mono ?_
            rw [hzi.out]
            rintro e wI ⟨rfl, hwI⟩
            subst hwI
            have hS1 := (hB.out.at_ 2 rfl).atN
            refine hK.out _ _ (fun _ => hS1) ?_
            clear hK K hS0
            have hS0 := hS1
            clear hS1
            refine tkn (i := 16) hR hS0 (h := ?_)
            simp only [Act.put]
            cases zi
            case false =>
              have h := hcf2.out
              rw [hzcT.out] at h
              simp at h
            case true =>
              refine tkn (i := 17) hR hS0 (h := ?_)
              refine tkn (i := 18) hR hS0 (h := ?_)
              refine tkn (i := 19) hR hS0 (h := ?_)
              refine tkn (i := 20) hR hS0 (h := ?_)
              refine tkn (i := 21) hR hS0 (h := ?_)
              simp only [Act.put]
              by_cases s1 : N.commit < sd
              case pos =>
                have s1b : decide (N.commit < sd) = true := by simpa using s1
                have s1c : decide (sd ≤ N.commit) = false := by simpa using s1
                replace s1 := hid_mk s1
                have h := hcf2.out
                rw [hzcT.out, s1c] at h
                simp at h
              case neg =>
                have s1b : decide (N.commit < sd) = false := by simpa using s1
                have s1c : decide (sd ≤ N.commit) = true := by simpa using s1
                replace s1 := hid_mk s1
                refine tkn (i := 22) hR hS0 (h := ?_)
                refine tkn (i := 23) hR hS0 (h := ?_)
                refine tkn (i := 24) hR hS0 (h := ?_)
                refine tkn (i := 25) hR hS0 (h := ?_)
                refine tkn (i := 26) hR hS0 (h := ?_)
                simp only [Act.put]
                refine tkn (i := 27) hR hS0 (h := ?_)
                refine tkn (i := 28) hR hS0 (h := ?_)
                refine tkn (i := 29) hR hS0 (h := ?_)
                refine tkn (i := 31) hR hS0 (h := ?_)
                refine tkn (i := 32) hR hS0 (h := ?_)
                simp only [Act.put]
                refine tkn (i := 33) hR hS0 (h := ?_)
                refine onem (i := 30) hR (h := fun K hK => ?_)
                go_simp
                refine (hTA _ (hN.to qd)).mono ?_
                rintro e wT ⟨rfl, hb1⟩
                have qT := (after (w := w) hb1 qd).1
                replace hB := hid_mk (hB.out.keep hb1)
                replace hvJ : Hid (true = true → Ints wT 0 PA pn PV) := fun e => (hvJ.out e).to hb1
                clear hb1
                have hS1 := (hB.out.at_ 2 rfl).atN
                refine hK.out _ _ (fun _ => hS1) ?_
                clear hK K hS0
                have hS0 := hS1
                clear hS1
                by_cases s2 : tv = N.h.t
                case pos =>
                  have s2b : (tv == N.h.t) = true := by simpa using s2
                  have s2c : (tv != N.h.t) = false := by simpa using s2
                  replace s2 := hid_mk s2
                  refine tkn (i := 34) hR hS0 (h := ?_)
                  refine tkn (i := 35) hR hS0 (h := ?_)
                  refine tkn (i := 36) hR hS0 (h := ?_)
                  refine donem hR (h := ?_)
                  try simp only [Act.put]
                  go_wp2_with fail
                  go_meet
                  exact ⟨false, rfl, qT, hB, hvJ, hid_mk (by rw [kb, hcf2.out, s1c, s2b]; rfl)⟩
                case neg =>
                  have s2b : (tv == N.h.t) = false := by simpa using s2
                  have s2c : (tv != N.h.t) = true := by simpa using s2
                  replace s2 := hid_mk s2
                  have h := hcf2.out
                  rw [hzcT.out, s1c, s2b] at h
                  simp at h
    case rest =>
      clear hB q4 z4 hvJ hoI hcf2 hTA
      obtain ⟨g, rfl, q30, hB, hvJ, hg3⟩ := hcut
      obtain ⟨w30, hwc⟩ : ∃ x, x = wc := ⟨wc, rfl⟩
      subst hwc
      have z30 := q30.size
      cases g
      case true =>
        have h := hK.out
        rw [hg.out, show (N.role == 2) = true by simpa using g2.out, hg3.out] at h
        cases h
      have hok : (zg && (N.role == 2 && !(k == 2 && !zc))) = true := hK.out
      have hzc1 : confC N d = true := by
        have h := hg3.out
        rw [show (k == 2) = true by simpa using hk2.out, Bool.true_and, Bool.not_eq_false'] at h
        exact hzc.out.trans h
      have hps1 : ps = true := by
        have h := hzc1
        rw [add_conf hR.out g2.out, parse_eq, hPO.out, hps.out] at h
        simp only [Bool.and_eq_true] at h
        exact h.1
      have hvI : Hid (Ints w30 0 PA pn PV) := hvJ.out hps1
      have hp9 := prs_len (right_parts hR.out).2.2.2.2.2.2.2.2.2
      have hcr : rightL PV = true := by
        have h := conf_right hzc1
        rw [parse_eq, hPO.out, hPV.out] at h
        exact h
      have hPAs : ∃ b o, PA = some ⟨b, o, none⟩ := by
        have h1 := hvI.out.len
        have h2 := right_len hcr
        obtain ⟨b, o, e, _⟩ := hvI.out.2 (by omega)
        exact ⟨b, o, e⟩
      obtain ⟨PB0, PO0, rfl⟩ := hPAs
      clear hcr
      replace hps1 := hid_mk hps1
      replace hzc1 := hid_mk hzc1
      clear hvJ
      have lX := blk14c (hB.out.at_ 2 rfl)
      go_wp2_with fail
      clear lX
      refine (hEW _ (by omega) (hN.to q30) (ht.to q30)).mono ?_
      rintro e w31 ⟨aW, rfl, hokW, hb1⟩
      have q31 := (after (w := w) hb1 q30).1
      have z31 := q31.size
      replace hB := hid_mk (hB.out.keep hb1)
      replace hvI := hid_mk (hvI.out.to hb1)
      clear hb1 q30 z30
      obtain ⟨NW, hNW⟩ : ∃ x, hdN N (withH N.h ⟨N.h.t, k, d⟩) = x := ⟨_, rfl⟩
      rw [hNW] at hokW
      try rw [hNW]
      replace hokW := hid_mk hokW
      unfold nodeV
      clear hEW
      have lX := blk14c (hB.out.at_ 2 rfl)
      obtain ⟨gM, hgM⟩ : ∃ g, w31.heap.size = g := ⟨_, rfl⟩
      have lgM : w.heap.size ≤ gM := by rw [← hgM]; exact q31.size
      replace hB := hid_mk (hB.out.add_ hgM lgM 30 (ndC NW aW))
      replace hokW := hid_mk (hokW.out.to ((Below.refl _ w31).alloc (Nat.le_refl _) (.cells (ndC NW aW) 30)))
      replace hvI := hid_mk (hvI.out.to ((Below.refl _ w31).alloc (Nat.le_refl _) (.cells (ndC NW aW) 30)))
      have q32 := q31.alloc q31.size (.cells (ndC NW aW) 30)
      obtain ⟨w32, hw32⟩ : ∃ x, w31.alloc (.cells (ndC NW aW) 30) = x := ⟨_, rfl⟩
      rw [hw32] at hB hokW hvI q32
      try unfold ndC at hw32
      replace hw32 := hid_mk hw32
      replace hgM := hid_mk hgM
      go_upto_region 11 with fail
      try rw [hw32.out]
      try rw [hgM.out]
      clear lX hw32 hgM q31 z31
      have z32 := q32.size
      cases zh
      case false =>
        have hno := hid_mk (add_bad (hs4.out hok rfl) (by decide))
        have lY := blk14f (hB.out.at_ 2 rfl)
        have lZ := blk14f (hB.out.at_ 1 rfl)
        go_wp2
        clear lY lZ
        have kf := setN_blk (N := zeroN) (a := nilA) (hB.out.at_ 2 rfl)
        have qz := setN_below zeroN nilA q32 (by omega : w.heap.size ≤ w.heap.size + 1)
        unfold setN set14 zeroN nilA at kf qz
        have rs := blk14c kf
        refine ends_ret hQ (v := .tuple #[.agg (ndC zeroN nilA), .slice none 0 0, .int .i64 0, .int .i64 130]) (by simp [results, Tryz.results30, go_sem, rs, ndC, zeroN, nilA]) rfl ?_
        exact ⟨nilA, none, 0, 0, [], by rw [hno.out.1, hno.out.2.2.1, hno.out.2.2.2]; rfl, by rw [hno.out.1]; exact zero_ok, mgs_nil, by rw [hno.out.2.1]; rfl, Nat.le_refl _, qz⟩
      have h0 := hs5.out hok rfl
      have hfin := hid_mk (add_good h0)
      obtain ⟨hWr, hWl⟩ := add_mid (k := k) (d := d) hR.out hzh.out
      rw [hNW] at hWr hWl
      obtain ⟨hAr, hAl⟩ := add_base h0
      have hAe : addB N k d = psN NW (peersF PV N.id (la + 1) N.ps) := by
        unfold addB
        rw [hNW]
        rw [if_pos (by simpa using hk2.out), hla.out, parse_eq, hPO.out, hPV.out]
      obtain ⟨N2, hN2⟩ : ∃ x, addB N k d = x := ⟨_, rfl⟩
      rw [hN2] at hAr hAl hAe hfin
      obtain ⟨N3, hN3⟩ : ∃ x, sureN N2 = x := ⟨_, rfl⟩
      have hs3 := sure_same N2
      rw [hN3] at hs3 hfin
      have h3r : Hid (rightN N3 = true) := by rw [← hN3]; exact sure_right hAr
      have h3l : Hid (lastJ N3.h.l = la + 1) := by rw [Hid, hs3.2.1, hAl, hla.out]
      rw [hla.out] at hWl hfin
      have hidW : Hid (NW.id = N.id ∧ NW.ps = N.ps) := by rw [← hNW]; exact ⟨rfl, rfl⟩
      replace hNW := hid_mk hNW
      replace hN2 := hid_mk hN2
      replace hN3 := hid_mk hN3
      replace hs3 := hid_mk hs3
      replace hWr := hid_mk hWr
      replace hWl := hid_mk hWl
      replace hAr := hid_mk hAr
      replace hAl := hid_mk hAl
      replace h0 := hid_mk h0
      replace hok := hid_mk hok
      have kb : (k == 2) = true := by simpa using hk2.out
      replace hAe := hid_mk hAe
      obtain ⟨i0, hi0, hz0, hz1, hz2⟩ := info_parts prInfo
      obtain ⟨wM, hwM⟩ : ∃ x, x = w32 := ⟨w32, rfl⟩
      subst hwM
      have qM := q32
      obtain ⟨gD, hgD⟩ : ∃ g, wM.heap.size = g := ⟨_, rfl⟩
      have hyD : gM < gD := by rw [← hgD]; exact (hB.out.at_ 0 rfl).lt
      have own0 : Hid ((wM.alloc (.cells #[] 53)).ownsRow gD 53 3 (.slice (some ⟨gD, 0, none⟩) 0 0) (peersF (PV.take 0) N.id (la + 1) N.ps).length (prsL (peersF (PV.take 0) N.id (la + 1) N.ps))) := hid_mk (by rw [← hgD]; simpa [prsL, peersF] using World.ownsRow_lit (base := wM.heap.size) (e := 53) (size := 3) wM #[] 0 (Nat.le_refl _) (by unfold maxLen; omega) (by simp))
      replace hB := hid_mk (hB.out.other (.cells #[] 53))
      have hyb := hid_mk ((Below.refl _ wM).alloc (Nat.le_refl _) (.cells #[] 53))
      have q50 := qM.alloc qM.size (.cells #[] 53)
      obtain ⟨w50, hw50⟩ : ∃ x, wM.alloc (.cells #[] 53) = x := ⟨_, rfl⟩
      rw [hw50] at own0 hB hyb q50
      have hgw50 : gD ≤ w50.heap.size := by rw [← hw50]; simp only [World.size_alloc]; omega
      have hgDe := hid_mk hgD
      replace hw50 := hid_mk hw50
      replace hgD := hid_mk hgD
      have lX := blk14f (hB.out.at_ 3 rfl)
      go_upto_region 15 with fail
      try rw [hw50.out]
      try rw [hgD.out]
      clear lX hw50 hgD q32 z32
      go_wp2
      go_loopw [17, 106] (fun o iv wr => ∃ j : Nat, iv = .int .i64 j ∧ j ≤ pn ∧ Below w.heap.size w wr ∧ Hid (wr.ownsRow gD 53 3 o (peersF (PV.take j) N.id (la + 1) N.ps).length (prsL (peersF (PV.take j) N.id (la + 1) N.ps))) ∧ gD ≤ wr.heap.size ∧ Hid (Bxs w.heap.size wr [⟨gM, 30, ndC NW aW⟩, ⟨gZ, 30, ndC zeroN nilA⟩, ⟨w.heap.size + 1, 30, ndC zeroN nilA⟩, ⟨w.heap.size, 30, ndC N a⟩]) ∧ Hid (Below wM.heap.size wM wr)) (fun _ iv _ => pn - (intOf iv).toNat)
      case atStart => exact ⟨0, rfl, Nat.zero_le _, q50, own0, hgw50, hB, hyb⟩
      case round =>
        clear own0 hB q50 hgw50 hyb
        obtain ⟨j, rfl, hj2, qr, hown, hgw, hB, hyb⟩ := hrel
        have zr := qr.size
        obtain ⟨RJ, hRJ⟩ : ∃ x, peersF (PV.take j) N.id (la + 1) N.ps = x := ⟨_, rfl⟩
        rw [hRJ] at hown
        have hjl : RJ.length ≤ 7 := by
          have h1 := peersF_len (PV.take j) N.id (la + 1) N.ps
          rw [hRJ, List.length_take] at h1
          omega
        replace hRJ := hid_mk hRJ
        obtain ⟨Ao, co, rfl, ho1, ho2⟩ := own_slice hown.out
        by_cases hjn : j < pn
        · skip
          obtain ⟨bv, ov, v, hA, hbv, hdx, c0⟩ := (hvI.out.to hyb.out).at_ hjn
          have hA2 : PB0 = bv ∧ PO0 = ov := by simpa using hA
          obtain ⟨rfl, rfl⟩ := hA2
          clear hA
          have hsn : Hid (peersF (PV.take (j + 1)) N.id (la + 1) N.ps = RJ ++ (if v = N.id then [] else [(findP v N.ps).getD ⟨v, la + 1, 0⟩])) := by
            rw [Hid, take_snoc hdx.out, peersF_snoc, hRJ.out]
          have lX := blk14f (hB.out.at_ 3 rfl)
          go_wp2_with fail
          clear lX
          refine (RPeer_any N.ps v a.P.A a.P.n a.P.c _ (B := B) (hN.ps.to qr) (by omega)).mono ?_
          obtain ⟨ix, hix⟩ : ∃ x, idxP v 0 N.ps = x := ⟨_, rfl⟩
          rw [hix]
          rintro e w61 ⟨rfl, hb1⟩
          have q61 := (after (w := w) hb1 qr).1
          have z61 := q61.size
          replace hB := hid_mk (hB.out.keep hb1)
          replace hyb := hid_mk (after (w := wM) hb1 hyb.out).1
          replace hown := hid_mk (own_keep hown.out hb1)
          have hgw1 : gD ≤ w61.heap.size := Nat.le_trans hgw hb1.size
          clear hb1 qr zr c0 hgw
          by_cases v1 : v = N.id
          case pos =>
            have v1b : (v != N.id) = false := by simpa using v1
            have hown9 : Hid (w61.ownsRow gD 53 3 (.slice Ao RJ.length co) (peersF (PV.take (j + 1)) N.id (la + 1) N.ps).length (prsL (peersF (PV.take (j + 1)) N.id (la + 1) N.ps))) := by rw [hsn.out, if_pos v1, List.append_nil]; exact hown.out
            have hgw9 := hgw1
            replace v1 := hid_mk v1
            replace hix := hid_mk hix
            have lX := blk14f (hB.out.at_ 3 rfl)
            have lM := blk14f (hB.out.at_ 0 rfl)
            go_wp2
            clear lX lM
            go_roundw
            case rel =>
              first
              | exact ⟨j + 1, by go_num, by omega, q61, hown9, hgw9, hB, hyb⟩
              | ((repeat apply Exists.intro); (first | refine ⟨⟨j + 1, rfl, by omega, q61, hown9, hgw9, hB, hyb⟩, ?_⟩ | refine ⟨⟨j + 1, rfl, by omega, hown9, hB, hyb⟩, ?_⟩ | refine ⟨⟨j + 1, rfl, by omega, hown9, hgw9, hB, hyb⟩, ?_⟩); repeat' (first | rfl | go_num | apply And.intro))
            case measure => simp [intOf]; omega
          have v1b : (v != N.id) = true := by simpa using v1
          have v1h := hid_mk v1
          have hfd := idxP_fnd v N.ps 0
          by_cases hix0 : ix < 0
          case neg =>
            obtain ⟨kk, p, h1, h2, h3⟩ : ∃ (kk : Nat) (p : Pr), idxP v 0 N.ps = ((0 + kk : Nat) : Int) ∧ N.ps[kk]? = some p ∧ findP v N.ps = some p := by
              rcases hfd with h | ⟨h, _⟩
              · exact h
              · omega
            clear hfd
            have hkn : kk < a.P.n := by rw [← hN.ps.len]; exact (List.getElem?_eq_some_iff.1 h2).1
            have hix2 : ix = (kk : Int) := by rw [← hix, h1]; omega
            subst hix2
            have k0 : (0 : Int) ≤ (kk : Int) := by omega
            have k1 : (kk : Int) < a.P.n := by omega
            have k0b : decide ((kk : Int) < 0) = false := by rw [decide_eq_false_iff_not]; omega
            have k0c : decide ((0 : Int) ≤ (kk : Int)) = true := by rw [decide_eq_true_eq]; omega
            obtain ⟨pb, po, px, hPA2, hpb, hpd, pc0, pc1, pc2⟩ := (hN.ps.to q61).at_ hkn
            have hpx := drop_get hpd h2
            subst hpx
            replace hpd := hid_mk hpd
            replace h1 := hid_mk h1
            replace h2 := hid_mk h2
            replace h3 := hid_mk h3
            replace hix := hid_mk hix
            replace hix0 := hid_mk hix0
            clear v1
            have hnew : Hid (Prs (w61.alloc (.cells #[.int .i64 px.id, .int .i64 px.nx, .int .i64 px.mt] 53)) 0 (some ⟨w61.heap.size, 0, none⟩) 1 [px]) := reads_new w61 #[.int .i64 px.id, .int .i64 px.nx, .int .i64 px.mt] 53 1 3 0 rfl
            have hown2 := hid_mk (hown.out.alloc (.cells #[.int .i64 px.id, .int .i64 px.nx, .int .i64 px.mt] 53))
            have qa2 := q61.alloc q61.size (.cells #[.int .i64 px.id, .int .i64 px.nx, .int .i64 px.mt] 53)
            have hB2 := hid_mk (hB.out.other (.cells #[.int .i64 px.id, .int .i64 px.nx, .int .i64 px.mt] 53))
            have hyb2 := hyb.out.alloc hyb.out.size (.cells #[.int .i64 px.id, .int .i64 px.nx, .int .i64 px.mt] 53)
            have hgw2 : gD ≤ (w61.alloc (.cells #[.int .i64 px.id, .int .i64 px.nx, .int .i64 px.mt] 53)).heap.size := by simp only [World.size_alloc]; omega
            have lX := blk14f (hB.out.at_ 3 rfl)
            have lM := blk14f (hB.out.at_ 0 rfl)
            go_wp2_with (at_builtin; refine wpList_append_any _ rfl (.tmp 122) (.tmp 128) _ rfl gD 53 i0 _ 3 24 Tryz.underlying28 hi0 hz0 hz1 hz2 rfl (by omega) _ RJ.length _ rfl hown2.out 0 (some ⟨w61.heap.size, 0, none⟩) 1 1 _ rfl hnew.out (pr_one _) (by simp only [maxLen]; omega) (by omega) hgw2 ?_; intro v9 wa hown3 hga hat3; have lX9 := blk14f ((hB2.out.ownR hown2.out (by simp) hga).at_ 3 rfl))
            clear lX lM pc0 pc1 pc2 lX9
            have qa : Below w.heap.size w wa := grown_below qa2 hga (fun k hk => by have := (World.ownsRow.lt hown2.out k hk).1; omega)
            replace hB := hid_mk (hB2.out.ownR hown2.out (by simp) hga)
            replace hyb := hid_mk (grown_below hyb2 hga (fun k hk => by have h1 := (World.ownsRow.lt hown2.out k hk).1; have h2 := hgDe.out; omega))
            have hgw9 : gD ≤ wa.heap.size := Nat.le_trans hgw2 hga.size
            have hown9 : Hid (wa.ownsRow gD 53 3 (v9) (peersF (PV.take (j + 1)) N.id (la + 1) N.ps).length (prsL (peersF (PV.take (j + 1)) N.id (la + 1) N.ps))) := by
              rw [hsn.out, if_neg v1h.out, h3.out, Option.getD_some, List.length_append]
              unfold prsL at hown3 ⊢
              rw [List.flatMap_append]
              exact hown3
            clear hown3 hga hat3 hnew hown2 hB2 hyb2
            go_roundw
            case rel =>
              first
              | exact ⟨j + 1, by go_num, by omega, qa, hown9, hgw9, hB, hyb⟩
              | ((repeat apply Exists.intro); (first | refine ⟨⟨j + 1, rfl, by omega, qa, hown9, hgw9, hB, hyb⟩, ?_⟩ | refine ⟨⟨j + 1, rfl, by omega, hown9, hB, hyb⟩, ?_⟩ | refine ⟨⟨j + 1, rfl, by omega, hown9, hgw9, hB, hyb⟩, ?_⟩); repeat' (first | rfl | go_num | apply And.intro))
            case measure => simp [intOf]; omega
          have hfn : findP v N.ps = none := by
            rcases hfd with ⟨kk, p, h, _, _⟩ | ⟨_, h⟩
            · omega
            · exact h
          have k0b : decide (ix < 0) = true := by simpa using hix0
          have k0c : decide (0 ≤ ix) = false := by simpa using hix0
          replace hix0 := hid_mk hix0
          replace hix := hid_mk hix
          replace hfn := hid_mk hfn
          clear hfd v1
          have lX := blk14f (hB.out.at_ 3 rfl)
          have lM := blk14f (hB.out.at_ 0 rfl)
          go_wp2_with fail
          clear lX lM
          refine (RLastN_any NW aW _ (hokW.out.to hyb.out) (right_n hWr.out).1).mono ?_
          rw [hWl.out]
          rintro e w62 ⟨rfl, hb1⟩
          have q62 := (after (w := w) hb1 q61).1
          have z62 := q62.size
          replace hB := hid_mk (hB.out.keep hb1)
          replace hyb := hid_mk (after (w := wM) hb1 hyb.out).1
          replace hown := hid_mk (own_keep hown.out hb1)
          have hgw3 : gD ≤ w62.heap.size := Nat.le_trans hgw1 hb1.size
          clear hb1 q61 z61 hgw1
          have hnew : Hid (Prs (w62.alloc (.cells #[.int .i64 v, .int .i64 (la + 1), .int .i64 0] 53)) 0 (some ⟨w62.heap.size, 0, none⟩) 1 [⟨v, la + 1, 0⟩]) := reads_new w62 #[.int .i64 v, .int .i64 (la + 1), .int .i64 0] 53 1 3 0 rfl
          have hown2 := hid_mk (hown.out.alloc (.cells #[.int .i64 v, .int .i64 (la + 1), .int .i64 0] 53))
          have qa2 := q62.alloc q62.size (.cells #[.int .i64 v, .int .i64 (la + 1), .int .i64 0] 53)
          have hB2 := hid_mk (hB.out.other (.cells #[.int .i64 v, .int .i64 (la + 1), .int .i64 0] 53))
          have hyb2 := hyb.out.alloc hyb.out.size (.cells #[.int .i64 v, .int .i64 (la + 1), .int .i64 0] 53)
          have hgw2 : gD ≤ (w62.alloc (.cells #[.int .i64 v, .int .i64 (la + 1), .int .i64 0] 53)).heap.size := by simp only [World.size_alloc]; omega
          have lX := blk14f (hB.out.at_ 3 rfl)
          have lM := blk14f (hB.out.at_ 0 rfl)
          go_wp2_with (at_builtin; refine wpList_append_any _ rfl (.tmp 138) (.tmp 143) _ rfl gD 53 i0 _ 3 24 Tryz.underlying28 hi0 hz0 hz1 hz2 rfl (by omega) _ RJ.length _ rfl hown2.out 0 (some ⟨w62.heap.size, 0, none⟩) 1 1 _ rfl hnew.out (pr_one _) (by simp only [maxLen]; omega) (by omega) hgw2 ?_; intro v9 wa hown3 hga hat3)
          clear lX lM
          have qa : Below w.heap.size w wa := grown_below qa2 hga (fun k hk => by have := (World.ownsRow.lt hown2.out k hk).1; omega)
          replace hB := hid_mk (hB2.out.ownR hown2.out (by simp) hga)
          replace hyb := hid_mk (grown_below hyb2 hga (fun k hk => by have h1 := (World.ownsRow.lt hown2.out k hk).1; have h2 := hgDe.out; omega))
          have hgw9 : gD ≤ wa.heap.size := Nat.le_trans hgw2 hga.size
          have hown9 : Hid (wa.ownsRow gD 53 3 (v9) (peersF (PV.take (j + 1)) N.id (la + 1) N.ps).length (prsL (peersF (PV.take (j + 1)) N.id (la + 1) N.ps))) := by
            rw [hsn.out, if_neg v1h.out, hfn.out, Option.getD_none, List.length_append]
            unfold prsL at hown3 ⊢
            rw [List.flatMap_append]
            exact hown3
          clear hown3 hga hat3 hnew hown2 hB2 hyb2
          go_roundw
          case rel =>
            first
            | exact ⟨j + 1, by go_num, by omega, qa, hown9, hgw9, hB, hyb⟩
            | ((repeat apply Exists.intro); (first | refine ⟨⟨j + 1, rfl, by omega, qa, hown9, hgw9, hB, hyb⟩, ?_⟩ | refine ⟨⟨j + 1, rfl, by omega, hown9, hB, hyb⟩, ?_⟩ | refine ⟨⟨j + 1, rfl, by omega, hown9, hgw9, hB, hyb⟩, ?_⟩); repeat' (first | rfl | go_num | apply And.intro))
          case measure => simp [intOf]; omega
        have hjn2 : j = pn := by omega
        subst hjn2
        have hfull : RJ = peersF PV N.id (la + 1) N.ps := by
          rw [← hRJ.out, List.take_of_length_le (by rw [hvI.out.len]; exact Nat.le_refl _)]
        replace hfull := hid_mk hfull
        have hPs : Hid (Prs wr B Ao RJ.length RJ) := Reads.of_own hown.out
        replace hokW := hid_mk (hokW.out.to hyb.out)
        clear hown hyb
        have lX := blk14f (hB.out.at_ 3 rfl)
        have lM := blk14f (hB.out.at_ 0 rfl)
        go_upto_region 25 with fail
        clear lX lM
        have hBn := hB.out.set 0 rfl 13 (.slice Ao RJ.length co)
        have hkr := KR.cell (t := 30) (B := B) (hB.out.at_ 0 rfl) (by dsimp only; omega) (by decide) 13 (.slice Ao RJ.length co)
        have hok1 := hokW.out.kr hkr
        have hPr1 := Reads.kr hPs.out (.inr (.inr rfl)) hkr
        have q71 := qr.setCell (p := ⟨gM, 13, none⟩) (by dsimp only; omega) (.slice Ao RJ.length co)
        obtain ⟨w71, hwz⟩ : ∃ x, wr.setCell ⟨gM, 13, none⟩ (.slice Ao RJ.length co) = x := ⟨_, rfl⟩
        rw [hwz] at hBn hok1 hPr1 q71
        try rw [hwz]
        replace hB : Hid (Bxs w.heap.size w71 [⟨gM, 30, ndC N2 ⟨aW.R, aW.V, aW.G, ⟨Ao, RJ.length, co⟩⟩⟩, ⟨gZ, 30, ndC zeroN nilA⟩, ⟨w.heap.size + 1, 30, ndC zeroN nilA⟩, ⟨w.heap.size, 30, ndC N a⟩]) := by rw [hAe.out]; exact hBn
        have hNz : NdOk w71 B N2 ⟨aW.R, aW.V, aW.G, ⟨Ao, RJ.length, co⟩⟩ := by
          rw [hAe.out, ← hfull.out]
          exact ⟨hok1.recs, hok1.rc, hok1.rb, hok1.vs, hok1.vc, hok1.vb, hok1.sb, hok1.got, hok1.gc, hok1.gb, hPr1, ho1, by dsimp only; omega⟩
        replace hokW := hid_mk hNz
        clear hwz hBn hkr hok1 hPr1 hPs hNz qr zr hvI hfull
        have z71 := q71.size
        have lM := blk14c (hB.out.at_ 0 rfl)
        go_wp2_with fail
        clear lM
        refine (RSureN_any N2 ⟨aW.R, aW.V, aW.G, ⟨Ao, RJ.length, co⟩⟩ _ hokW.out hAr.out).mono ?_
        rw [hN3.out]
        rintro e w72 ⟨rfl, hb1⟩
        have q72 := (after (w := w) hb1 q71).1
        have z72 := q72.size
        replace hB := hid_mk (hB.out.keep hb1)
        replace hokW := hid_mk (hokW.out.to hb1)
        clear hb1 q71 z71
        unfold nodeV
        have lM := blk14f (hB.out.at_ 0 rfl)
        go_upto_region 26 with fail
        clear lM
        have q73 := setN_below N3 ⟨aW.R, aW.V, aW.G, ⟨Ao, RJ.length, co⟩⟩ q72 (by omega : w.heap.size ≤ gM)
        have hokWn := hid_mk (hokW.out.kr (setN_kr (B := B) N3 ⟨aW.R, aW.V, aW.G, ⟨Ao, RJ.length, co⟩⟩ (hB.out.at_ 0 rfl) (by dsimp only; omega)))
        have hBn := hB.out.setN 0 rfl N3 ⟨aW.R, aW.V, aW.G, ⟨Ao, RJ.length, co⟩⟩
        obtain ⟨w73, hwz⟩ : ∃ x, setN w72 (gM) N3 ⟨aW.R, aW.V, aW.G, ⟨Ao, RJ.length, co⟩⟩ = x := ⟨_, rfl⟩
        rw [hwz] at q73 hokWn hBn
        unfold setN set14 at hwz
        try rw [hwz]
        clear hwz
        replace hB : Hid (Bxs w.heap.size w73 [⟨gM, 30, ndC N3 ⟨aW.R, aW.V, aW.G, ⟨Ao, RJ.length, co⟩⟩⟩, ⟨gZ, 30, ndC zeroN nilA⟩, ⟨w.heap.size + 1, 30, ndC zeroN nilA⟩, ⟨w.heap.size, 30, ndC N a⟩]) := hid_mk hBn
        clear hBn
        replace hokW := hid_mk hokWn
        clear hokWn
        have z73 := q73.size
        clear q72 z72
        replace hokW : Hid (NdOk w73 B N3 ⟨aW.R, aW.V, aW.G, ⟨Ao, RJ.length, co⟩⟩) := hid_mk (nd_like hokW.out hs3.out.2.1 hs3.out.2.2.2.2.2.1 hs3.out.2.2.2.2.2.2.1)
        refine regm (fun w' => AtN w' gM N3 ⟨aW.R, aW.V, aW.G, ⟨Ao, RJ.length, co⟩⟩) 9 9 [(0, 0), (0, 0), (2, 2), (0, 0), (12, 8), (17, 1), (39, 4), (127, 16), (255, 0)] (by exact (hB.out.at_ 0 rfl).atN) (fun hS0 hR => ?_)
        replace hB := hid_mk hB.out.drew
        replace hokW := hid_mk (hokW.out.to (show Below w73.heap.size w73 w73.drew by go_grown))
        have qd : Below w.heap.size w w73.drew := by go_grown
        obtain ⟨wd, hwd⟩ : ∃ x, w73.drew = x := ⟨_, rfl⟩
        rw [hwd] at hS0 hB hokW qd ⊢
        clear hwd q73 z73
        have zd := qd.size
        refine tkn (i := 0) hR hS0 (h := ?_)
        refine tkn (i := 1) hR hS0 (h := ?_)
        refine tkn (i := 3) hR hS0 (h := ?_)
        refine onem (i := 2) hR (h := fun K hK => ?_)
        go_simp
        refine (RAll_any N3 ⟨aW.R, aW.V, aW.G, ⟨Ao, RJ.length, co⟩⟩ _ (Nat.le_trans hBw qd.size) hokW.out h3r.out).mono ?_
        rintro e wS ⟨LA, ln, lc, pm, rfl, hMg, hpm, hlc, hb1⟩
        have qS := (after (w := w) hb1 qd).1
        replace hB := hid_mk (hB.out.keep hb1)
        replace hokW := hid_mk (hokW.out.to hb1)
        replace hMg := hid_mk hMg
        replace hpm := hid_mk hpm
        clear hb1 qd zd
        have hS1 := (hB.out.at_ 0 rfl).atN
        refine hK.out _ _ (fun _ => hS1) ?_
        clear hK K hS0
        have hS0 := hS1
        clear hS1
        refine onem (i := 4) hR (h := fun K hK => ?_)
        go_simp
        refine (RLastN_any N3 ⟨aW.R, aW.V, aW.G, ⟨Ao, RJ.length, co⟩⟩ _ hokW.out (right_n h3r.out).1).mono ?_
        rw [h3l.out]
        rintro e wL ⟨rfl, hb1⟩
        have qL := (after (w := w) hb1 qS).1
        replace hB := hid_mk (hB.out.keep hb1)
        replace hokW := hid_mk (hokW.out.to hb1)
        replace hMg := hid_mk (hMg.out.to hb1)
        clear hb1 qS
        have hS1 := (hB.out.at_ 0 rfl).atN
        refine hK.out _ _ (fun _ => hS1) ?_
        clear hK K hS0
        have hS0 := hS1
        clear hS1
        have lY := blk14f (hB.out.at_ 2 rfl)
        refine onem (i := 5) hR (h := fun K hK => ?_)
        go_simp
        clear lY
        have hkr := setN_kr (B := B) N3 ⟨aW.R, aW.V, aW.G, ⟨Ao, RJ.length, co⟩⟩ (hB.out.at_ 2 rfl) (by dsimp only; omega)
        replace hMg := hid_mk (mgs_setN hMg.out (hB.out.at_ 2 rfl) (by dsimp only; omega) N3 ⟨aW.R, aW.V, aW.G, ⟨Ao, RJ.length, co⟩⟩)
        replace hokW := hid_mk (hokW.out.kr hkr)
        clear hkr
        have qz := setN_below N3 ⟨aW.R, aW.V, aW.G, ⟨Ao, RJ.length, co⟩⟩ qL (by omega : w.heap.size ≤ w.heap.size + 1)
        have hBn := hB.out.setN 2 rfl N3 ⟨aW.R, aW.V, aW.G, ⟨Ao, RJ.length, co⟩⟩
        obtain ⟨wz, hwz⟩ : ∃ x, setN wL (w.heap.size + 1) N3 ⟨aW.R, aW.V, aW.G, ⟨Ao, RJ.length, co⟩⟩ = x := ⟨_, rfl⟩
        rw [hwz] at hBn hokW hMg qz
        replace hB : Hid (Bxs w.heap.size wz [⟨gM, 30, ndC N3 ⟨aW.R, aW.V, aW.G, ⟨Ao, RJ.length, co⟩⟩⟩, ⟨gZ, 30, ndC zeroN nilA⟩, ⟨w.heap.size + 1, 30, ndC N3 ⟨aW.R, aW.V, aW.G, ⟨Ao, RJ.length, co⟩⟩⟩, ⟨w.heap.size, 30, ndC N a⟩]) := hid_mk hBn
        clear hBn
        unfold setN set14 at hwz
        rw [hwz]
        clear hwz
        have hS1 := (hB.out.at_ 0 rfl).atN
        refine hK.out _ _ (fun _ => hS1) ?_
        clear hK K hS0
        have hS0 := hS1
        clear hS1
        refine onem (i := 6) hR (h := fun K hK => ?_)
        go_simp
        have hS1 := (hB.out.at_ 0 rfl).atN
        refine hK.out _ _ (fun _ => hS1) ?_
        clear hK K hS0
        have hS0 := hS1
        clear hS1
        refine onem (i := 7) hR (h := fun K hK => ?_)
        go_simp
        have hS1 := (hB.out.at_ 0 rfl).atN
        refine hK.out _ _ (fun _ => hS1) ?_
        clear hK K hS0
        have hS0 := hS1
        clear hS1
        refine onem (i := 8) hR (h := fun K hK => ?_)
        go_simp
        have hS1 := (hB.out.at_ 0 rfl).atN
        refine hK.out _ _ (fun _ => hS1) ?_
        clear hK K hS0
        have hS0 := hS1
        clear hS1
        refine donem hR (h := ?_)
        try simp only [Act.put]
        have lY := blk14c (hB.out.at_ 2 rfl)
        go_wp2
        refine ends_ret hQ (v := .tuple #[.agg (ndC N3 ⟨aW.R, aW.V, aW.G, ⟨Ao, RJ.length, co⟩⟩), .slice LA ln lc, .int .i64 (la + 1), .int .i64 0]) (by simp [results, Tryz.results30, go_sem, lY, ndC]) rfl ?_
        exact ⟨⟨aW.R, aW.V, aW.G, ⟨Ao, RJ.length, co⟩⟩, LA, ln, lc, pm, by rw [hfin.out.1, hfin.out.2.2.1, hfin.out.2.2.2]; rfl, by rw [hfin.out.1]; exact hokW.out, hMg.out, by rw [hfin.out.2.1]; exact hpm.out, hlc, qz⟩
theorem RAdd_any (N : Nd) (a : NdA) (k : Int) (d : ByteArray) (w : World) {B : Nat} (hBw : B ≤ w.heap.size) (hzr : rightN N = true) (hN : NdOk w B N a) (ht : Tab w) :
    Calls Tryz.prog 30 #[nodeV N a, .int .i64 k, .string d] w (RetAd w B (addN N k d) (addL N k d) (addAt N k d) (addE N k d)) := by
  cases h : addOk N k d with
  | false => exact RAdd1_any N a k d w hBw hzr hN ht h
  | true =>
    by_cases h2 : k = 2
    · exact RAdd3_any N a k d w hBw hzr hN ht h h2
    · exact RAdd2_any N a k d w hBw hzr hN ht h h2
end Go.Proofs.YtncdjmpdbinanaaGreatDoor
