/-
  WHAT IS PROVED HERE: what extend.Fit hands back of any node and message. Conditions: the slices are of at most 2^47 bytes; the library's table and MaxLen stand.
-/
import Derived.Test.YtncdjmpdbinanaaGreatDoorZGEw
import Derived.Test.YtncdjmpdbinanaaGreatDoorZEsr
import Derived.Test.YtncdjmpdbinanaaGreatDoorZGSd
import Derived.Test.YtncdjmpdbinanaaGreatDoorZGNd
import Derived.Deep.DeepCutAuto
namespace Go.Proofs.YtncdjmpdbinanaaGreatDoor
open Go.RowKit

set_option maxRecDepth 100000 in
set_option maxHeartbeats 12800000 in
theorem EFit1_any (N : Nd) (a : NdA) (M : Ms) (ok : Bool) (b : MsA) (w : World) {B : Nat} (_hBw : B ≤ w.heap.size) (hN : NdOk w B N a) (hM : MsOk w B ⟨M.kind, M.fr, M.to, M.term, ok, M.index, M.lterm, M.rs, M.commit, M.s, M.vs⟩ b) (ht : Tab w) (mm : Int) (hm : w.cell? ⟨0, 0, none⟩ = some (.int .i64 mm)) (hK : fitC N ⟨M.kind, M.fr, M.to, M.term, ok, M.index, M.lterm, M.rs, M.commit, M.s, M.vs⟩ = false) :
    Calls Tryz.prog 31 #[nodeV N a, msgV ⟨M.kind, M.fr, M.to, M.term, ok, M.index, M.lterm, M.rs, M.commit, M.s, M.vs⟩ b] w (RetNMs w B (fitN N ⟨M.kind, M.fr, M.to, M.term, ok, M.index, M.lterm, M.rs, M.commit, M.s, M.vs⟩) (fitL N ⟨M.kind, M.fr, M.to, M.term, ok, M.index, M.lterm, M.rs, M.commit, M.s, M.vs⟩)) := by
  have hmf : ∀ (fn : Fn) (first cap : Array Value) (w : World), (Instr.makeFunc fn first cap).run Tryz.prog w = .ok (.func fn first cap) w := fun _ _ _ _ => rfl
  have hm2 : Hid (∀ w', Below w.heap.size w w' → w'.cell? ⟨0, 0, none⟩ = some (.int .i64 mm)) := fun w' hb => (hb.cell (p := ⟨0, 0, none⟩) (cell_lt hm)).trans hm
  clear hm
  obtain ⟨z, hz⟩ : ∃ x, toldE N ⟨M.kind, M.fr, M.to, M.term, ok, M.index, M.lterm, M.rs, M.commit, M.s, M.vs⟩ 4 = x := ⟨_, rfl⟩
  obtain ⟨zl, hzl⟩ : ∃ x, decide (lastJ N.h.l < M.index) = x := ⟨_, rfl⟩
  obtain ⟨la, hla⟩ : ∃ x, lastJ N.h.l = x := ⟨_, rfl⟩
  have hr : Hid (z = true → rightN N = true) := fun e => by
    rw [← hz] at e
    unfold toldE at e
    simp only [Bool.and_eq_true] at e
    exact e.1
  have hT : Hid (fitT N ⟨M.kind, M.fr, M.to, M.term, ok, M.index, M.lterm, M.rs, M.commit, M.s, M.vs⟩ = (z && (M.term == N.h.t && (N.role == 2 && !(ok && zl))))) := by rw [Hid, ← hz, ← hzl]; rfl
  replace hK := hid_mk hK
  have hTo := fun (w : World) (h : NdOk w B N a) (h2 : MsOk w B ⟨M.kind, M.fr, M.to, M.term, ok, M.index, M.lterm, M.rs, M.commit, M.s, M.vs⟩ b) (h3 : Tab w) => ETold_any N a ⟨M.kind, M.fr, M.to, M.term, ok, M.index, M.lterm, M.rs, M.commit, M.s, M.vs⟩ b 4 w h h2 h3
  rw [hz] at hTo
  rw [hla] at hzl
  have hLA := fun (w : World) (h : NdOk w B N a) (hj : rightJ N.h.l = true) => ELast_any N a w h hj
  rw [hla] at hLA
  replace hz := hid_mk hz
  replace hla := hid_mk hla
  have hpb := hN.pb
  unfold nodeV at hTo hLA ⊢
  unfold msgV at hTo ⊢
  dsimp only at hTo ⊢
  obtain ⟨w0, hw0⟩ : ∃ x, (((w.alloc (.cells (ndC N a) 30)).alloc (.cells (msC ⟨M.kind, M.fr, M.to, M.term, ok, M.index, M.lterm, M.rs, M.commit, M.s, M.vs⟩ b) 32)).alloc (.cells (ndC zeroN nilA) 30)) = x := ⟨_, rfl⟩
  have hB : Hid (Bxs w.heap.size w0 [⟨w.heap.size + 1 + 1, 30, ndC zeroN nilA⟩, ⟨w.heap.size + 1, 32, msC ⟨M.kind, M.fr, M.to, M.term, ok, M.index, M.lterm, M.rs, M.commit, M.s, M.vs⟩ b⟩, ⟨w.heap.size, 30, ndC N a⟩]) := by
    rw [← hw0]
    exact ((((Bxs.nil w.heap.size w).add_ rfl (by omega) 30 (ndC N a)).add_ (by simp) (by omega) 32 (msC ⟨M.kind, M.fr, M.to, M.term, ok, M.index, M.lterm, M.rs, M.commit, M.s, M.vs⟩ b)).add_ (by simp) (by omega) 30 (ndC zeroN nilA))
  have q0 : Below w.heap.size w w0 := by rw [← hw0]; go_grown
  have z0 := q0.size
  dsimp only [ndC, msC, zeroN, nilA, zeroM, nilMA] at hw0
  refine calls_of_wpQ Tryz.func31 rfl ?_
  intro Q hQ
  simp only [Tryz.ntmps31, List.size_toArray, List.length_cons, List.length_nil, Nat.reduceAdd, Nat.reduceSub, Array.replicate_succ, Array.replicate_zero, List.push_toArray, List.append_toArray, List.nil_append, List.cons_append]
  go_upto_region 1 with fail
  try rw [hw0]
  clear hw0
  go_cut [35] from 8 (fun p35 wx => ∃ g : Bool, p35 = .bool g ∧ Below w.heap.size w wx ∧ Hid (Bxs w.heap.size wx [⟨w.heap.size + 1 + 1, 30, ndC zeroN nilA⟩, ⟨w.heap.size + 1, 32, msC ⟨M.kind, M.fr, M.to, M.term, ok, M.index, M.lterm, M.rs, M.commit, M.s, M.vs⟩ b⟩, ⟨w.heap.size, 30, ndC N a⟩]) ∧ Hid (fitT N ⟨M.kind, M.fr, M.to, M.term, ok, M.index, M.lterm, M.rs, M.commit, M.s, M.vs⟩ = !g))
  case first =>
    refine regm (fun w' => AtN w' w.heap.size N a ∧ AtM w' (w.heap.size + 1) ⟨M.kind, M.fr, M.to, M.term, ok, M.index, M.lterm, M.rs, M.commit, M.s, M.vs⟩ b) 28 28 [(0, 0), (0, 0), (3, 3), (4, 4), (12, 8), (16, 16), (48, 48), (16, 16), (144, 144), (272, 272), (592, 592), (1040, 1040), (2064, 2048), (4096, 4096), (12288, 12288), (20480, 20480), (36864, 36864), (69632, 65536), (131072, 131072), (393216, 393216), (655360, 655360), (1048576, 1048576), (3145728, 3145728), (1048576, 1048576), (9437184, 9437184), (22020096, 22020096), (34734080, 34734080), (67239936, 67239936)] (by exact And.intro ((hB.out.at_ 2 rfl).atN) ((hB.out.at_ 1 rfl).atM)) (fun hS0 hR => ?_)
    replace hB := hid_mk hB.out.drew
    have qd : Below w.heap.size w w0.drew := by go_grown
    obtain ⟨wd, hwd⟩ : ∃ x, w0.drew = x := ⟨_, rfl⟩
    rw [hwd] at hS0 hB  qd ⊢
    clear hwd q0 z0
    have zd := qd.size
    refine tkn (i := 0) hR hS0 (h := ?_)
    refine tkn (i := 1) hR hS0 (h := ?_)
    refine onem (i := 2) hR (h := fun K hK => ?_)
    go_simp
    refine (hTo _ (hN.to qd) (hM.to qd) (ht.to qd)).mono ?_
    rintro e wT ⟨rfl, hb1⟩
    have qT := (after (w := w) hb1 qd).1
    replace hB := hid_mk (hB.out.keep hb1)
    clear hb1 qd zd
    have hS1 := And.intro ((hB.out.at_ 2 rfl).atN) ((hB.out.at_ 1 rfl).atM)
    refine hK.out _ _ (fun _ => hS1) ?_
    clear hK K hS0
    have hS0 := hS1
    clear hS1
    refine tkn (i := 3) hR hS0 (h := ?_)
    refine tkn (i := 4) hR hS0 (h := ?_)
    cases z
    case false =>
      refine skm (i := 5) hR hS0 (h := ?_)
      simp only [Act.put]
      refine skm (i := 6) hR hS0 (h := ?_)
      refine skm (i := 7) hR hS0 (h := ?_)
      refine skm (i := 8) hR hS0 (h := ?_)
      refine skm (i := 9) hR hS0 (h := ?_)
      refine skm (i := 10) hR hS0 (h := ?_)
      simp only [Act.put]
      refine tkn (i := 11) hR hS0 (h := ?_)
      refine tkn (i := 12) hR hS0 (h := ?_)
      refine skm (i := 13) hR hS0 (h := ?_)
      refine skm (i := 14) hR hS0 (h := ?_)
      refine skm (i := 15) hR hS0 (h := ?_)
      simp only [Act.put]
      refine tkn (i := 16) hR hS0 (h := ?_)
      refine tkn (i := 17) hR hS0 (h := ?_)
      refine skm (i := 18) hR hS0 (h := ?_)
      refine skm (i := 19) hR hS0 (h := ?_)
      refine skm (i := 20) hR hS0 (h := ?_)
      simp only [Act.put]
      refine skm (i := 21) hR hS0 (h := ?_)
      refine skm (i := 22) hR hS0 (h := ?_)
      refine skm (i := 23) hR hS0 (h := ?_)
      refine skm (i := 24) hR hS0 (h := ?_)
      refine skm (i := 25) hR hS0 (h := ?_)
      simp only [Act.put]
      refine skm (i := 26) hR hS0 (h := ?_)
      refine tkn (i := 27) hR hS0 (h := ?_)
      refine donem hR (h := ?_)
      try simp only [Act.put]
      go_wp2_with fail
      go_meet
      exact ⟨true, rfl, qT, hB, hid_mk (by rw [hT.out]; rfl)⟩
    case true =>
      refine tkn (i := 5) hR hS0 (h := ?_)
      simp only [Act.put]
      refine tkn (i := 6) hR hS0 (h := ?_)
      refine tkn (i := 7) hR hS0 (h := ?_)
      refine tkn (i := 8) hR hS0 (h := ?_)
      refine tkn (i := 9) hR hS0 (h := ?_)
      by_cases g1 : M.term = N.h.t
      case neg =>
        have g1b : (M.term == N.h.t) = false := by simpa using g1
        have g1c : (M.term != N.h.t) = true := by simpa using g1
        replace g1 := hid_mk g1
        have why := hid_mk (hT.out.trans (show _ = !true by rw [g1b]; rfl))
        refine tkn (i := 10) hR hS0 (h := ?_)
        simp only [Act.put]
        refine tkn (i := 11) hR hS0 (h := ?_)
        refine tkn (i := 12) hR hS0 (h := ?_)
        refine skm (i := 13) hR hS0 (h := ?_)
        refine skm (i := 14) hR hS0 (h := ?_)
        refine skm (i := 15) hR hS0 (h := ?_)
        simp only [Act.put]
        refine tkn (i := 16) hR hS0 (h := ?_)
        refine tkn (i := 17) hR hS0 (h := ?_)
        refine skm (i := 18) hR hS0 (h := ?_)
        refine skm (i := 19) hR hS0 (h := ?_)
        refine skm (i := 20) hR hS0 (h := ?_)
        simp only [Act.put]
        refine skm (i := 21) hR hS0 (h := ?_)
        refine skm (i := 22) hR hS0 (h := ?_)
        refine skm (i := 23) hR hS0 (h := ?_)
        refine skm (i := 24) hR hS0 (h := ?_)
        refine skm (i := 25) hR hS0 (h := ?_)
        simp only [Act.put]
        refine skm (i := 26) hR hS0 (h := ?_)
        refine tkn (i := 27) hR hS0 (h := ?_)
        refine donem hR (h := ?_)
        try simp only [Act.put]
        go_wp2_with fail
        go_meet
        exact ⟨true, rfl, qT, hB, hid_mk (why.out)⟩
      case pos =>
        have g1b : (M.term == N.h.t) = true := by simpa using g1
        have g1c : (M.term != N.h.t) = false := by simpa using g1
        replace g1 := hid_mk g1
        refine tkn (i := 10) hR hS0 (h := ?_)
        simp only [Act.put]
        refine tkn (i := 11) hR hS0 (h := ?_)
        refine tkn (i := 12) hR hS0 (h := ?_)
        refine tkn (i := 13) hR hS0 (h := ?_)
        refine tkn (i := 14) hR hS0 (h := ?_)
        by_cases g2 : N.role = 2
        case neg =>
          have g2b : (N.role == 2) = false := by simpa using g2
          have g2c : (N.role != 2) = true := by simpa using g2
          replace g2 := hid_mk g2
          have why := hid_mk (hT.out.trans (show _ = !true by rw [g1b, g2b]; rfl))
          refine tkn (i := 15) hR hS0 (h := ?_)
          simp only [Act.put]
          refine tkn (i := 16) hR hS0 (h := ?_)
          refine tkn (i := 17) hR hS0 (h := ?_)
          refine skm (i := 18) hR hS0 (h := ?_)
          refine skm (i := 19) hR hS0 (h := ?_)
          refine skm (i := 20) hR hS0 (h := ?_)
          simp only [Act.put]
          refine skm (i := 21) hR hS0 (h := ?_)
          refine skm (i := 22) hR hS0 (h := ?_)
          refine skm (i := 23) hR hS0 (h := ?_)
          refine skm (i := 24) hR hS0 (h := ?_)
          refine skm (i := 25) hR hS0 (h := ?_)
          simp only [Act.put]
          refine skm (i := 26) hR hS0 (h := ?_)
          refine tkn (i := 27) hR hS0 (h := ?_)
          refine donem hR (h := ?_)
          try simp only [Act.put]
          go_wp2_with fail
          go_meet
          exact ⟨true, rfl, qT, hB, hid_mk (why.out)⟩
        case pos =>
          have g2b : (N.role == 2) = true := by simpa using g2
          have g2c : (N.role != 2) = false := by simpa using g2
          replace g2 := hid_mk g2
          refine tkn (i := 15) hR hS0 (h := ?_)
          simp only [Act.put]
          refine tkn (i := 16) hR hS0 (h := ?_)
          refine tkn (i := 17) hR hS0 (h := ?_)
          refine tkn (i := 18) hR hS0 (h := ?_)
          refine tkn (i := 19) hR hS0 (h := ?_)
          cases ok
          case false =>
            have why := hid_mk (hT.out.trans (show _ = !false by rw [g1b, g2b]; rfl))
            refine tkn (i := 20) hR hS0 (h := ?_)
            simp only [Act.put]
            refine skm (i := 21) hR hS0 (h := ?_)
            refine skm (i := 22) hR hS0 (h := ?_)
            refine skm (i := 23) hR hS0 (h := ?_)
            refine skm (i := 24) hR hS0 (h := ?_)
            refine skm (i := 25) hR hS0 (h := ?_)
            simp only [Act.put]
            refine tkn (i := 26) hR hS0 (h := ?_)
            refine tkn (i := 27) hR hS0 (h := ?_)
            refine donem hR (h := ?_)
            try simp only [Act.put]
            go_wp2_with fail
            go_meet
            exact ⟨false, rfl, qT, hB, hid_mk (why.out)⟩
          case true =>
            have why := hid_mk (hT.out.trans (show _ = !zl by rw [g1b, g2b]; rfl))
            refine tkn (i := 20) hR hS0 (h := ?_)
            simp only [Act.put]
            refine tkn (i := 21) hR hS0 (h := ?_)
            refine tkn (i := 22) hR hS0 (h := ?_)
            refine tkn (i := 23) hR hS0 (h := ?_)
            refine onem (i := 24) hR (h := fun K hK => ?_)
            go_simp
            refine (hLA _ (hN.to qT) (right_n (hr.out rfl)).1).mono ?_
            rintro e wU ⟨rfl, hb1⟩
            have qU := (after (w := w) hb1 qT).1
            replace hB := hid_mk (hB.out.keep hb1)
            clear hb1 qT
            have hS1 := And.intro ((hB.out.at_ 2 rfl).atN) ((hB.out.at_ 1 rfl).atM)
            refine hK.out _ _ (fun _ => hS1) ?_
            clear hK K hS0
            have hS0 := hS1
            clear hS1
            refine tkn (i := 25) hR hS0 (h := ?_)
            refine tkn (i := 26) hR hS0 (h := ?_)
            simp only [Act.put]
            refine tkn (i := 27) hR hS0 (h := ?_)
            refine donem hR (h := ?_)
            try simp only [Act.put]
            go_wp2_with fail
            go_meet
            exact ⟨zl, rfl, qU, hB, hid_mk (why.out)⟩
  case rest =>
    clear hB q0 z0 hT hTo hLA hr
    obtain ⟨g, rfl, q1, hB, hg⟩ := hcut
    obtain ⟨w1, hwc⟩ : ∃ x, x = wc := ⟨wc, rfl⟩
    subst hwc
    have z1 := q1.size
    cases g
    case true =>
      have hno := hid_mk (fit_no (.inl hg.out))
      have lX := blk14f (hB.out.at_ 2 rfl)
      have lY := blk14f (hB.out.at_ 0 rfl)
      have lM := blk11f (hB.out.at_ 1 rfl)
      go_wp2
      clear lX lY lM
      have kf := setN_blk (N := N) (a := a) (hB.out.at_ 0 rfl)
      unfold setN set14 at kf
      have rs := blk14c kf
      refine ends_ret hQ (v := .tuple #[.agg (ndC N a), .slice none 0 0]) (by simp [results, Tryz.results31, go_sem, rs, ndC]) rfl ?_
      exact ⟨a, none, 0, 0, [], by rw [hno.out.1]; rfl, by rw [hno.out.1]; exact hN.to (setN_below N a q1 (by omega)), mgs_nil, by rw [hno.out.2]; rfl, Nat.le_refl _, setN_below N a q1 (by omega)⟩
    replace hg := hid_mk (show fitT N ⟨M.kind, M.fr, M.to, M.term, ok, M.index, M.lterm, M.rs, M.commit, M.s, M.vs⟩ = true from hg.out)
    have hr : Hid (rightN N = true) := by
      have e := hg.out
      unfold fitT toldE at e
      simp only [Bool.and_eq_true] at e
      exact e.1.1
    rcases idxP_find M.fr N.ps 0 with ⟨k, p, hix, hk, hfp, hse⟩ | ⟨hix, hfp⟩
    rotate_left
    · skip
      have lX := blk14f (hB.out.at_ 2 rfl)
      have lM := blk11f (hB.out.at_ 1 rfl)
      go_wp2_with fail
      clear lX lM
      refine (IndexP_any N.ps ⟨M.kind, M.fr, M.to, M.term, ok, M.index, M.lterm, M.rs, M.commit, M.s, M.vs⟩ b (w.heap.size + 1) a.P.A a.P.n a.P.c _ (by omega) (hN.ps.to q1) (hB.out.at_ 1 rfl)).mono ?_
      rw [hix]
      replace hix := hid_mk hix
      rintro e w2 ⟨rfl, hb1⟩
      have q2 := (after (w := w) hb1 q1).1
      have z2 := q2.size
      replace hB := hid_mk (hB.out.keep hb1)
      clear hb1
      have hno := hid_mk (fit_no (M := ⟨M.kind, M.fr, M.to, M.term, ok, M.index, M.lterm, M.rs, M.commit, M.s, M.vs⟩) (.inr hfp))
      have lX := blk14f (hB.out.at_ 2 rfl)
      have lY := blk14f (hB.out.at_ 0 rfl)
      have lM := blk11f (hB.out.at_ 1 rfl)
      go_wp2
      clear lX lY lM
      have kf := setN_blk (N := N) (a := a) (hB.out.at_ 0 rfl)
      unfold setN set14 at kf
      have rs := blk14c kf
      refine ends_ret hQ (v := .tuple #[.agg (ndC N a), .slice none 0 0]) (by simp [results, Tryz.results31, go_sem, rs, ndC]) rfl ?_
      exact ⟨a, none, 0, 0, [], by rw [hno.out.1]; rfl, by rw [hno.out.1]; exact hN.to (setN_below N a q2 (by omega)), mgs_nil, by rw [hno.out.2]; rfl, Nat.le_refl _, setN_below N a q2 (by omega)⟩
    · skip
      have h := hK.out
      rw [fit_yes hg.out hfp] at h
      cases h
set_option maxRecDepth 100000 in
set_option maxHeartbeats 12800000 in
theorem EFit2_any (N : Nd) (a : NdA) (M : Ms) (ok : Bool) (b : MsA) (w : World) {B : Nat} (hBw : B ≤ w.heap.size) (hN : NdOk w B N a) (hM : MsOk w B ⟨M.kind, M.fr, M.to, M.term, ok, M.index, M.lterm, M.rs, M.commit, M.s, M.vs⟩ b) (ht : Tab w) (mm : Int) (hm : w.cell? ⟨0, 0, none⟩ = some (.int .i64 mm)) (hK : fitC N ⟨M.kind, M.fr, M.to, M.term, ok, M.index, M.lterm, M.rs, M.commit, M.s, M.vs⟩ = true) (hok : ok = false) :
    Calls Tryz.prog 31 #[nodeV N a, msgV ⟨M.kind, M.fr, M.to, M.term, ok, M.index, M.lterm, M.rs, M.commit, M.s, M.vs⟩ b] w (RetNMs w B (fitN N ⟨M.kind, M.fr, M.to, M.term, ok, M.index, M.lterm, M.rs, M.commit, M.s, M.vs⟩) (fitL N ⟨M.kind, M.fr, M.to, M.term, ok, M.index, M.lterm, M.rs, M.commit, M.s, M.vs⟩)) := by
  have hmf : ∀ (fn : Fn) (first cap : Array Value) (w : World), (Instr.makeFunc fn first cap).run Tryz.prog w = .ok (.func fn first cap) w := fun _ _ _ _ => rfl
  have hm2 : Hid (∀ w', Below w.heap.size w w' → w'.cell? ⟨0, 0, none⟩ = some (.int .i64 mm)) := fun w' hb => (hb.cell (p := ⟨0, 0, none⟩) (cell_lt hm)).trans hm
  clear hm
  obtain ⟨z, hz⟩ : ∃ x, toldE N ⟨M.kind, M.fr, M.to, M.term, ok, M.index, M.lterm, M.rs, M.commit, M.s, M.vs⟩ 4 = x := ⟨_, rfl⟩
  obtain ⟨zl, hzl⟩ : ∃ x, decide (lastJ N.h.l < M.index) = x := ⟨_, rfl⟩
  obtain ⟨la, hla⟩ : ∃ x, lastJ N.h.l = x := ⟨_, rfl⟩
  have hr : Hid (z = true → rightN N = true) := fun e => by
    rw [← hz] at e
    unfold toldE at e
    simp only [Bool.and_eq_true] at e
    exact e.1
  have hT : Hid (fitT N ⟨M.kind, M.fr, M.to, M.term, ok, M.index, M.lterm, M.rs, M.commit, M.s, M.vs⟩ = (z && (M.term == N.h.t && (N.role == 2 && !(ok && zl))))) := by rw [Hid, ← hz, ← hzl]; rfl
  have hFs : Hid ((findP M.fr N.ps).isSome = true) := by
    have h := hK
    rw [fitC_T, Bool.and_eq_true] at h
    exact h.2
  have hTt : Hid (fitT N ⟨M.kind, M.fr, M.to, M.term, ok, M.index, M.lterm, M.rs, M.commit, M.s, M.vs⟩ = true) := by
    have h := hK
    rw [fitC_T, Bool.and_eq_true] at h
    exact h.1
  replace hok := hid_mk hok
  have hTo := fun (w : World) (h : NdOk w B N a) (h2 : MsOk w B ⟨M.kind, M.fr, M.to, M.term, ok, M.index, M.lterm, M.rs, M.commit, M.s, M.vs⟩ b) (h3 : Tab w) => ETold_any N a ⟨M.kind, M.fr, M.to, M.term, ok, M.index, M.lterm, M.rs, M.commit, M.s, M.vs⟩ b 4 w h h2 h3
  rw [hz] at hTo
  rw [hla] at hzl
  have hLA := fun (w : World) (h : NdOk w B N a) (hj : rightJ N.h.l = true) => ELast_any N a w h hj
  rw [hla] at hLA
  replace hz := hid_mk hz
  replace hla := hid_mk hla
  have hpb := hN.pb
  unfold nodeV at hTo hLA ⊢
  unfold msgV at hTo ⊢
  dsimp only at hTo ⊢
  obtain ⟨w0, hw0⟩ : ∃ x, (((w.alloc (.cells (ndC N a) 30)).alloc (.cells (msC ⟨M.kind, M.fr, M.to, M.term, ok, M.index, M.lterm, M.rs, M.commit, M.s, M.vs⟩ b) 32)).alloc (.cells (ndC zeroN nilA) 30)) = x := ⟨_, rfl⟩
  have hB : Hid (Bxs w.heap.size w0 [⟨w.heap.size + 1 + 1, 30, ndC zeroN nilA⟩, ⟨w.heap.size + 1, 32, msC ⟨M.kind, M.fr, M.to, M.term, ok, M.index, M.lterm, M.rs, M.commit, M.s, M.vs⟩ b⟩, ⟨w.heap.size, 30, ndC N a⟩]) := by
    rw [← hw0]
    exact ((((Bxs.nil w.heap.size w).add_ rfl (by omega) 30 (ndC N a)).add_ (by simp) (by omega) 32 (msC ⟨M.kind, M.fr, M.to, M.term, ok, M.index, M.lterm, M.rs, M.commit, M.s, M.vs⟩ b)).add_ (by simp) (by omega) 30 (ndC zeroN nilA))
  have q0 : Below w.heap.size w w0 := by rw [← hw0]; go_grown
  have z0 := q0.size
  dsimp only [ndC, msC, zeroN, nilA, zeroM, nilMA] at hw0
  refine calls_of_wpQ Tryz.func31 rfl ?_
  intro Q hQ
  simp only [Tryz.ntmps31, List.size_toArray, List.length_cons, List.length_nil, Nat.reduceAdd, Nat.reduceSub, Array.replicate_succ, Array.replicate_zero, List.push_toArray, List.append_toArray, List.nil_append, List.cons_append]
  go_upto_region 1 with fail
  try rw [hw0]
  clear hw0
  go_cut [35] from 8 (fun p35 wx => ∃ g : Bool, p35 = .bool g ∧ Below w.heap.size w wx ∧ Hid (Bxs w.heap.size wx [⟨w.heap.size + 1 + 1, 30, ndC zeroN nilA⟩, ⟨w.heap.size + 1, 32, msC ⟨M.kind, M.fr, M.to, M.term, ok, M.index, M.lterm, M.rs, M.commit, M.s, M.vs⟩ b⟩, ⟨w.heap.size, 30, ndC N a⟩]) ∧ Hid (fitT N ⟨M.kind, M.fr, M.to, M.term, ok, M.index, M.lterm, M.rs, M.commit, M.s, M.vs⟩ = !g))
  case first =>
    refine regm (fun w' => AtN w' w.heap.size N a ∧ AtM w' (w.heap.size + 1) ⟨M.kind, M.fr, M.to, M.term, ok, M.index, M.lterm, M.rs, M.commit, M.s, M.vs⟩ b) 28 28 [(0, 0), (0, 0), (3, 3), (4, 4), (12, 8), (16, 16), (48, 48), (16, 16), (144, 144), (272, 272), (592, 592), (1040, 1040), (2064, 2048), (4096, 4096), (12288, 12288), (20480, 20480), (36864, 36864), (69632, 65536), (131072, 131072), (393216, 393216), (655360, 655360), (1048576, 1048576), (3145728, 3145728), (1048576, 1048576), (9437184, 9437184), (22020096, 22020096), (34734080, 34734080), (67239936, 67239936)] (by exact And.intro ((hB.out.at_ 2 rfl).atN) ((hB.out.at_ 1 rfl).atM)) (fun hS0 hR => ?_)
    replace hB := hid_mk hB.out.drew
    have qd : Below w.heap.size w w0.drew := by go_grown
    obtain ⟨wd, hwd⟩ : ∃ x, w0.drew = x := ⟨_, rfl⟩
    rw [hwd] at hS0 hB  qd ⊢
    clear hwd q0 z0
    have zd := qd.size
    refine tkn (i := 0) hR hS0 (h := ?_)
    refine tkn (i := 1) hR hS0 (h := ?_)
    refine onem (i := 2) hR (h := fun K hK => ?_)
    go_simp
    refine (hTo _ (hN.to qd) (hM.to qd) (ht.to qd)).mono ?_
    rintro e wT ⟨rfl, hb1⟩
    have qT := (after (w := w) hb1 qd).1
    replace hB := hid_mk (hB.out.keep hb1)
    clear hb1 qd zd
    have hS1 := And.intro ((hB.out.at_ 2 rfl).atN) ((hB.out.at_ 1 rfl).atM)
    refine hK.out _ _ (fun _ => hS1) ?_
    clear hK K hS0
    have hS0 := hS1
    clear hS1
    refine tkn (i := 3) hR hS0 (h := ?_)
    refine tkn (i := 4) hR hS0 (h := ?_)
    cases z
    case false =>
      have h := hT.out
      rw [hTt.out] at h
      simp at h
    case true =>
      refine tkn (i := 5) hR hS0 (h := ?_)
      simp only [Act.put]
      refine tkn (i := 6) hR hS0 (h := ?_)
      refine tkn (i := 7) hR hS0 (h := ?_)
      refine tkn (i := 8) hR hS0 (h := ?_)
      refine tkn (i := 9) hR hS0 (h := ?_)
      by_cases g1 : M.term = N.h.t
      case neg =>
        have g1b : (M.term == N.h.t) = false := by simpa using g1
        have g1c : (M.term != N.h.t) = true := by simpa using g1
        replace g1 := hid_mk g1
        have h := hT.out
        rw [hTt.out, g1b] at h
        simp at h
      case pos =>
        have g1b : (M.term == N.h.t) = true := by simpa using g1
        have g1c : (M.term != N.h.t) = false := by simpa using g1
        replace g1 := hid_mk g1
        refine tkn (i := 10) hR hS0 (h := ?_)
        simp only [Act.put]
        refine tkn (i := 11) hR hS0 (h := ?_)
        refine tkn (i := 12) hR hS0 (h := ?_)
        refine tkn (i := 13) hR hS0 (h := ?_)
        refine tkn (i := 14) hR hS0 (h := ?_)
        by_cases g2 : N.role = 2
        case neg =>
          have g2b : (N.role == 2) = false := by simpa using g2
          have g2c : (N.role != 2) = true := by simpa using g2
          replace g2 := hid_mk g2
          have h := hT.out
          rw [hTt.out, g1b, g2b] at h
          simp at h
        case pos =>
          have g2b : (N.role == 2) = true := by simpa using g2
          have g2c : (N.role != 2) = false := by simpa using g2
          replace g2 := hid_mk g2
          refine tkn (i := 15) hR hS0 (h := ?_)
          simp only [Act.put]
          refine tkn (i := 16) hR hS0 (h := ?_)
          refine tkn (i := 17) hR hS0 (h := ?_)
          refine tkn (i := 18) hR hS0 (h := ?_)
          refine tkn (i := 19) hR hS0 (h := ?_)
          cases ok
          case false =>
            have why := hid_mk (hT.out.trans (show _ = !false by rw [g1b, g2b]; rfl))
            refine tkn (i := 20) hR hS0 (h := ?_)
            simp only [Act.put]
            refine skm (i := 21) hR hS0 (h := ?_)
            refine skm (i := 22) hR hS0 (h := ?_)
            refine skm (i := 23) hR hS0 (h := ?_)
            refine skm (i := 24) hR hS0 (h := ?_)
            refine skm (i := 25) hR hS0 (h := ?_)
            simp only [Act.put]
            refine tkn (i := 26) hR hS0 (h := ?_)
            refine tkn (i := 27) hR hS0 (h := ?_)
            refine donem hR (h := ?_)
            try simp only [Act.put]
            go_wp2_with fail
            go_meet
            exact ⟨false, rfl, qT, hB, hid_mk (why.out)⟩
          case true =>
            exact absurd hok.out (by decide)
  case rest =>
    clear hB q0 z0 hT hTo hLA hr
    obtain ⟨g, rfl, q1, hB, hg⟩ := hcut
    obtain ⟨w1, hwc⟩ : ∃ x, x = wc := ⟨wc, rfl⟩
    subst hwc
    have z1 := q1.size
    cases g
    case true =>
      exact absurd hg.out (by rw [hTt.out]; decide)
    replace hg := hid_mk (show fitT N ⟨M.kind, M.fr, M.to, M.term, ok, M.index, M.lterm, M.rs, M.commit, M.s, M.vs⟩ = true from hg.out)
    have hr : Hid (rightN N = true) := by
      have e := hg.out
      unfold fitT toldE at e
      simp only [Bool.and_eq_true] at e
      exact e.1.1
    rcases idxP_find M.fr N.ps 0 with ⟨k, p, hix, hk, hfp, hse⟩ | ⟨hix, hfp⟩
    rotate_left
    · skip
      have h := hFs.out
      rw [hfp] at h
      cases h
    · skip
      have hix2 : idxP M.fr 0 N.ps = (k : Int) := by rw [hix]; omega
      replace hix := hid_mk hix2
      clear hix2
      have hlN := hN.ps.len
      have hkn : k < a.P.n := by rw [← hlN]; exact (List.getElem?_eq_some_iff.1 hk).1
      have k0 : (0 : Int) ≤ k := by omega
      have k1 : (k : Int) < a.P.n := by omega
      have k2 : ¬ (k : Int) < 0 := by omega
      have hfC := hid_mk (fit_yes hg.out hfp)
      have hp := (okPs_iff.1 (right_parts hr.out).2.2.2.2.2.2.2.2.2).1 p (findP_mem hfp).1
      have hcb := commit_bounds hr.out
      have hp9 := prs_len (right_parts hr.out).2.2.2.2.2.2.2.2.2
      have hpo := hid_mk (fitP_ok hfC.out hfp)
      have hmb := may_bounds (fit_parts hfC.out).2.1
      dsimp only at hmb
      replace hk := hid_mk hk
      replace hfp := hid_mk hfp
      replace hse := hid_mk hse
      have lX := blk14f (hB.out.at_ 2 rfl)
      have lM := blk11f (hB.out.at_ 1 rfl)
      go_wp2_with fail
      clear lX lM
      refine (IndexP_any N.ps ⟨M.kind, M.fr, M.to, M.term, ok, M.index, M.lterm, M.rs, M.commit, M.s, M.vs⟩ b (w.heap.size + 1) a.P.A a.P.n a.P.c _ (by omega) (hN.ps.to q1) (hB.out.at_ 1 rfl)).mono ?_
      rw [hix.out]
      rintro e w2 ⟨rfl, hb1⟩
      have q2 := (after (w := w) hb1 q1).1
      have z2 := q2.size
      replace hB := hid_mk (hB.out.keep hb1)
      clear hb1 q1 z1
      have zz2 := z2
      have lX := blk14c (hB.out.at_ 2 rfl)
      have lM := blk11v (hB.out.at_ 1 rfl)
      go_wp2_with fail
      clear lX lM
      refine (CloneP_own a.P.A a.P.n a.P.c N.ps _ (B := B) (by omega) (hN.ps.to q2)).mono ?_
      rintro e w3 ⟨CA, Cc, rfl, hown, hcc, hb1⟩
      have q3 := (after (w := w) hb1 q2).1
      have z3 := q3.size
      replace hB := hid_mk (hB.out.keep hb1)
      clear hb1 q2 z2
      obtain ⟨gp, rfl, hO⟩ := own_box hown (by omega)
      clear hown
      have lgp : w.heap.size ≤ gp := Nat.le_trans zz2 hO.lt.2
      clear zz2
      replace hO := hid_mk hO
      have lX := blk14f (hB.out.at_ 2 rfl)
      have lM := blk11f (hB.out.at_ 1 rfl)
      have hO5 := hO.out.cells_ hk.out
      go_upto_region 8 with fail
      clear lX lM hO5
      have hBn : Bxs w.heap.size (w3.setCell ⟨w.heap.size, 13, none⟩ (.slice (some ⟨gp, 0, none⟩) a.P.n Cc)) [⟨w.heap.size + 1 + 1, 30, ndC zeroN nilA⟩, ⟨w.heap.size + 1, 32, msC ⟨M.kind, M.fr, M.to, M.term, ok, M.index, M.lterm, M.rs, M.commit, M.s, M.vs⟩ b⟩, ⟨w.heap.size, 30, ndC N ⟨a.R, a.V, a.G, ⟨some ⟨gp, 0, none⟩, a.P.n, Cc⟩⟩⟩] := (hB.out.set 2 rfl 13 (.slice (some ⟨gp, 0, none⟩) a.P.n Cc))
      have q4 := (q3.setCell (p := ⟨w.heap.size, 13, none⟩) (by dsimp only; omega) (.slice (some ⟨gp, 0, none⟩) a.P.n Cc))
      have hOn : OwnP (w3.setCell ⟨w.heap.size, 13, none⟩ (.slice (some ⟨gp, 0, none⟩) a.P.n Cc)) w2.heap.size gp Cc a.P.n N.ps := (hO.out.far (hB.out.at_ 2 rfl) (by dsimp only; decide) 13 (.slice (some ⟨gp, 0, none⟩) a.P.n Cc))
      obtain ⟨w4, hwz⟩ : ∃ x, (w3.setCell ⟨w.heap.size, 13, none⟩ (.slice (some ⟨gp, 0, none⟩) a.P.n Cc)) = x := ⟨_, rfl⟩
      rw [hwz] at hBn q4 hOn
      try rw [hwz]
      clear hwz
      replace hB := hid_mk hBn
      clear hBn
      replace hO := hid_mk hOn
      clear hOn
      have z4 := q4.size
      clear q3 z3
      cases ok
      case true => exact absurd hok.out (by decide)
      case false =>
        have hPe : fitP N ⟨M.kind, M.fr, M.to, M.term, false, M.index, M.lterm, M.rs, M.commit, M.s, M.vs⟩ p = ⟨p.id, max (min (p.nx - 1) (M.index + 1)) (p.mt + 1), p.mt⟩ := rfl
        obtain ⟨X, hX⟩ : ∃ x, max (min (p.nx - 1) (M.index + 1)) (p.mt + 1) = x := ⟨_, rfl⟩
        rw [hX] at hPe
        obtain ⟨PQ, hPQe⟩ : ∃ x, x = (⟨p.id, X, p.mt⟩ : Pr) := ⟨_, rfl⟩
        obtain ⟨N2, hN2e⟩ : ∃ x, x = psN N (setP M.fr PQ N.ps) := ⟨_, rfl⟩
        have hfin0 : fitN N ⟨M.kind, M.fr, M.to, M.term, false, M.index, M.lterm, M.rs, M.commit, M.s, M.vs⟩ = N2 ∧ fitL N ⟨M.kind, M.fr, M.to, M.term, false, M.index, M.lterm, M.rs, M.commit, M.s, M.vs⟩ = [sendM N2 PQ] := by
          have e1 : fitN N ⟨M.kind, M.fr, M.to, M.term, false, M.index, M.lterm, M.rs, M.commit, M.s, M.vs⟩ = N2 := by
            unfold fitN
            rw [if_pos hfC.out]
            simp only [hfp.out]
            rw [hPe, hN2e, hPQe]
            rfl
          refine ⟨e1, ?_⟩
          unfold fitL
          rw [if_pos hfC.out]
          simp only [hfp.out]
          rw [hPe, e1, hPQe]
          rfl
        have hNr : Hid (rightN N2 = true) := by
          have h := fit_base hfC.out hfp.out
          rw [hPe, ← hPQe] at h
          rw [hN2e]
          exact h
        have hPQ : Hid (1 ≤ PQ.nx ∧ PQ.nx ≤ lastJ N2.h.l + 1) := by
          have h := hpo.out.2.1
          rw [hPe, ← hPQe] at h
          rw [hN2e]
          exact h
        have hps : Hid (N2.ps = N.ps.set k ⟨p.id, X, p.mt⟩) := by rw [hN2e, ← hPQe]; exact hse.out PQ
        have hkk : Hid (N2.ps[k]? = some PQ) := by
          rw [Hid, hps.out, hPQe, List.getElem?_set_self (by rw [hlN]; exact hkn)]
        have hhh : Hid (N2.h = N.h ∧ N2.got = N.got) := by rw [hN2e]; exact ⟨rfl, rfl⟩
        have hcs : ∀ aa, ndC N aa = ndC N2 aa := fun aa => by rw [hN2e]; rfl
        obtain ⟨MS, hMS⟩ : ∃ x, sendM N2 PQ = x := ⟨_, rfl⟩
        rw [hMS] at hfin0
        replace hfin0 := hid_mk hfin0
        replace hMS := hid_mk hMS
        have x1 : IntKind.i64.wrap (p.nx - 1) = p.nx - 1 := IntWalk.i64_in _ (by omega)
        have x2 : IntKind.i64.wrap (M.index + 1) = M.index + 1 := IntWalk.i64_in _ (by omega)
        have x3 : IntKind.i64.wrap (p.mt + 1) = p.mt + 1 := IntWalk.i64_in _ (by omega)
        replace hPe := hid_mk hPe
        replace hN2e := hid_mk hN2e
        have hPQid := hid_mk (show PQ.id = p.id ∧ PQ.nx = X ∧ PQ.mt = p.mt by rw [hPQe]; exact ⟨rfl, rfl, rfl⟩)
        replace hPQe := hid_mk hPQe
        have lM := blk11f (hB.out.at_ 1 rfl)
        go_upto_region 9 with fail
        clear lM
        refine regm (fun w' => w'.cell? ⟨gp, k * 3 + 1, none⟩ = some (.int .i64 p.nx) ∧ w'.cell? ⟨gp, k * 3 + 2, none⟩ = some (.int .i64 p.mt) ∧ w'.cell? ⟨w.heap.size + 1, 5, none⟩ = some (.int .i64 M.index)) 18 19 [(0, 0), (0, 0), (2, 2), (4, 4), (8, 8), (16, 16), (0, 0), (64, 64), (128, 128), (288, 288), (0, 0), (1024, 1024), (2048, 2048), (4096, 4096), (8192, 8192), (16896, 16896), (65535, 1), (131071, 65536), (196607, 163840)] (by exact And.intro ((hO.out.cells_ hk.out).2.1) (And.intro ((hO.out.cells_ hk.out).2.2.1) ((hB.out.at_ 1 rfl).cell 5))) (fun hS0 hR => ?_)
        replace hO := hid_mk (hO.out.keep (show Below w4.heap.size w4 w4.drew by go_grown))
        replace hB := hid_mk hB.out.drew
        have qd : Below w.heap.size w w4.drew := by go_grown
        obtain ⟨wd, hwd⟩ : ∃ x, w4.drew = x := ⟨_, rfl⟩
        rw [hwd] at hS0 hO hB  qd ⊢
        clear hwd q4 z4
        have zd := qd.size
        refine tkn (i := 0) hR hS0 (h := ?_)
        refine tkn (i := 1) hR hS0 (h := ?_)
        refine tkn (i := 2) hR hS0 (h := ?_)
        refine tkn (i := 3) hR hS0 (h := ?_)
        refine tkn (i := 4) hR hS0 (h := ?_)
        simp only [Act.put]
        refine tkn (i := 5) hR hS0 (h := ?_)
        refine tkn (i := 6) hR hS0 (h := ?_)
        refine tkn (i := 7) hR hS0 (h := ?_)
        refine tkn (i := 8) hR hS0 (h := ?_)
        refine tkn (i := 9) hR hS0 (h := ?_)
        simp only [Act.put]
        refine tkn (i := 10) hR hS0 (h := ?_)
        refine tkn (i := 11) hR hS0 (h := ?_)
        refine tkn (i := 12) hR hS0 (h := ?_)
        refine tkn (i := 13) hR hS0 (h := ?_)
        refine tkn (i := 14) hR hS0 (h := ?_)
        simp only [Act.put]
        refine tkn (i := 15) hR hS0 (h := ?_)
        refine onem (i := 16) hR (h := fun K hK => ?_)
        go_simp
        have hS1 := And.intro ((hO.out.cells_ hk.out).2.1) (And.intro ((hO.out.cells_ hk.out).2.2.1) ((hB.out.at_ 1 rfl).cell 5))
        refine hK.out _ _ (fun _ => hS1) ?_
        clear hK K hS0
        have hS0 := hS1
        clear hS1
        refine tkn (i := 17) hR hS0 (h := ?_)
        have lO := hO.out.cells_ hk.out
        refine onem (i := 18) hR (h := fun K hK => ?_)
        go_simp
        refine hK.out _ _ (fun h => absurd h (by decide)) ?_
        clear hK K
        refine donem hR (h := ?_)
        try simp only [Act.put]
        clear lO
        try rw [hX]
        have hOn := hO.out.nx hk.out X
        have hBn := hB.out.row hO.out (by simp) (k * 3 + 1) (.int .i64 X)
        have q9 := qd.setCell (p := ⟨gp, k * 3 + 1, none⟩) (by dsimp only; omega) (.int .i64 X)
        obtain ⟨w9, hw9⟩ : ∃ x, wd.setCell ⟨gp, k * 3 + 1, none⟩ (.int .i64 X) = x := ⟨_, rfl⟩
        rw [hw9] at hOn hBn q9 ⊢
        replace hB : Hid (Bxs w.heap.size w9 [⟨w.heap.size + 1 + 1, 30, ndC zeroN nilA⟩, ⟨w.heap.size + 1, 32, msC ⟨M.kind, M.fr, M.to, M.term, false, M.index, M.lterm, M.rs, M.commit, M.s, M.vs⟩ b⟩, ⟨w.heap.size, 30, ndC N2 ⟨a.R, a.V, a.G, ⟨some ⟨gp, 0, none⟩, a.P.n, Cc⟩⟩⟩]) := by rw [← hcs]; exact hBn
        have hNk : Hid (NdOk w9 B N2 ⟨a.R, a.V, a.G, ⟨some ⟨gp, 0, none⟩, a.P.n, Cc⟩⟩) := ⟨by rw [hhh.out.1]; exact hN.recs.to q9, hN.rc, hN.rb, by rw [hhh.out.1]; exact hN.vs.to q9, hN.vc, hN.vb, by rw [hhh.out.1]; exact hN.sb, by rw [hhh.out.2]; exact hN.got.to q9, hN.gc, hN.gb, by rw [hps.out]; exact hOn.prs, hcc, hN.pb⟩
        clear hw9 hBn hOn hO qd zd hX x1 x2 x3
        have z9 := q9.size
        have hfin := hid_mk (hfin0.out)
        have lX := blk14f (hB.out.at_ 2 rfl)
        have lY := blk14f (hB.out.at_ 0 rfl)
        have lM := blk11f (hB.out.at_ 1 rfl)
        have lp := prs_cells hNk.out.ps hkk.out
        go_upto_region 10 with fail
        clear lX lY lM lp
        refine regm (fun w' => AtN w' w.heap.size N2 ⟨a.R, a.V, a.G, ⟨some ⟨gp, 0, none⟩, a.P.n, Cc⟩⟩ ∧ w'.cell? ⟨gp, k * 3, none⟩ = some (.int .i64 PQ.id) ∧ w'.cell? ⟨gp, k * 3 + 1, none⟩ = some (.int .i64 PQ.nx) ∧ w'.cell? ⟨gp, k * 3 + 2, none⟩ = some (.int .i64 PQ.mt)) 9 9 [(0, 0), (0, 0), (0, 0), (4, 4), (8, 8), (18, 18), (32, 32), (33, 1), (255, 64)] (by exact And.intro ((hB.out.at_ 2 rfl).atN) (prs_cells hNk.out.ps hkk.out)) (fun hS0 hR => ?_)
        replace hB := hid_mk hB.out.drew
        replace hNk := hid_mk (hNk.out.to (show Below w9.heap.size w9 w9.drew by go_grown))
        have qd : Below w.heap.size w w9.drew := by go_grown
        obtain ⟨wd, hwd⟩ : ∃ x, w9.drew = x := ⟨_, rfl⟩
        rw [hwd] at hS0 hB hNk qd ⊢
        clear hwd q9 z9
        have zd := qd.size
        refine tkn (i := 0) hR hS0 (h := ?_)
        refine tkn (i := 1) hR hS0 (h := ?_)
        refine tkn (i := 2) hR hS0 (h := ?_)
        refine tkn (i := 3) hR hS0 (h := ?_)
        refine tkn (i := 4) hR hS0 (h := ?_)
        simp only [Act.put]
        refine onem (i := 5) hR (h := fun K hK => ?_)
        go_simp
        refine (ESend_any N2 ⟨a.R, a.V, a.G, ⟨some ⟨gp, 0, none⟩, a.P.n, Cc⟩⟩ PQ _ (Nat.le_trans hBw qd.size) hNk.out hNr.out hPQ.out).mono ?_
        rw [hMS.out]
        rintro e wS ⟨bS, rfl, hok, hb1⟩
        have qS := (after (w := w) hb1 qd).1
        replace hB := hid_mk (hB.out.keep hb1)
        replace hNk := hid_mk (hNk.out.to hb1)
        replace hok := hid_mk hok
        unfold msgV
        clear hb1 qd zd
        have hS1 := And.intro ((hB.out.at_ 2 rfl).atN) (prs_cells hNk.out.ps hkk.out)
        refine hK.out _ _ (fun _ => hS1) ?_
        clear hK K hS0
        have hS0 := hS1
        clear hS1
        have lY := blk14f (hB.out.at_ 0 rfl)
        refine twom (i := 6) (j := 7) hR (h := fun K hK => ?_) (h' := fun K hK => ?_)
        · go_simp
          clear lY
          obtain ⟨gS, hgS⟩ : ∃ g, wS.heap.size = g := ⟨_, rfl⟩
          have hL1 : Hid (Mgs (wS.alloc (.cells (msC MS bS) 32)) B (some ⟨gS, 0, none⟩) 1 [(MS, bS)]) := by rw [← hgS]; exact mgs_box (Blk.new _ _ _) (hok.out.to ((Below.refl _ wS).alloc (Nat.le_refl _) (.cells (msC MS bS) 32)))
          replace hB := hid_mk (hB.out.other (.cells (msC MS bS) 32))
          replace hNk := hid_mk (hNk.out.to ((Below.refl _ wS).alloc (Nat.le_refl _) (.cells (msC MS bS) 32)))
          have qA := qS.alloc qS.size (.cells (msC MS bS) 32)
          obtain ⟨wA, hwS⟩ : ∃ x, wS.alloc (.cells (msC MS bS) 32) = x := ⟨_, rfl⟩
          rw [hwS] at hL1 hB hNk qA
          unfold msC at hwS
          rw [hwS, hgS]
          clear hgS hwS hok
          have hS1 := And.intro ((hB.out.at_ 2 rfl).atN) (prs_cells hNk.out.ps hkk.out)
          refine hK.out _ _ (fun _ => hS1) ?_
          clear hK K hS0
          have hS0 := hS1
          clear hS1
          have lY := blk14f (hB.out.at_ 0 rfl)
          refine onem (i := 7) hR (h := fun K hK => ?_)
          go_simp
          clear lY
          have hkr := setN_kr (B := B) N2 ⟨a.R, a.V, a.G, ⟨some ⟨gp, 0, none⟩, a.P.n, Cc⟩⟩ (hB.out.at_ 0 rfl) (by dsimp only; omega)
          replace hL1 := hid_mk (mgs_setN hL1.out (hB.out.at_ 0 rfl) (by dsimp only; omega) N2 ⟨a.R, a.V, a.G, ⟨some ⟨gp, 0, none⟩, a.P.n, Cc⟩⟩)
          replace hNk := hid_mk (hNk.out.kr hkr)
          clear hkr
          have qz := setN_below N2 ⟨a.R, a.V, a.G, ⟨some ⟨gp, 0, none⟩, a.P.n, Cc⟩⟩ qA (by omega : w.heap.size ≤ w.heap.size + 1 + 1)
          have hBn := hB.out.setN 0 rfl N2 ⟨a.R, a.V, a.G, ⟨some ⟨gp, 0, none⟩, a.P.n, Cc⟩⟩
          obtain ⟨wz, hwz⟩ : ∃ x, setN wA (w.heap.size + 1 + 1) N2 ⟨a.R, a.V, a.G, ⟨some ⟨gp, 0, none⟩, a.P.n, Cc⟩⟩ = x := ⟨_, rfl⟩
          rw [hwz] at hBn hNk qz hL1
          replace hB : Hid (Bxs w.heap.size wz [⟨w.heap.size + 1 + 1, 30, ndC N2 ⟨a.R, a.V, a.G, ⟨some ⟨gp, 0, none⟩, a.P.n, Cc⟩⟩⟩, ⟨w.heap.size + 1, 32, msC ⟨M.kind, M.fr, M.to, M.term, false, M.index, M.lterm, M.rs, M.commit, M.s, M.vs⟩ b⟩, ⟨w.heap.size, 30, ndC N2 ⟨a.R, a.V, a.G, ⟨some ⟨gp, 0, none⟩, a.P.n, Cc⟩⟩⟩]) := hid_mk hBn
          clear hBn
          unfold setN set14 at hwz
          rw [hwz]
          clear hwz
          have hS1 := And.intro ((hB.out.at_ 2 rfl).atN) (prs_cells hNk.out.ps hkk.out)
          refine hK.out _ _ (fun _ => hS1) ?_
          clear hK K hS0
          have hS0 := hS1
          clear hS1
          refine onem (i := 8) hR (h := fun K hK => ?_)
          go_simp
          have hS1 := And.intro ((hB.out.at_ 2 rfl).atN) (prs_cells hNk.out.ps hkk.out)
          refine hK.out _ _ (fun _ => hS1) ?_
          clear hK K hS0
          have hS0 := hS1
          clear hS1
          refine donem hR (h := ?_)
          try simp only [Act.put]
          have lY := blk14c (hB.out.at_ 0 rfl)
          go_wp2
          refine ends_ret hQ (v := .tuple #[.agg (ndC N2 ⟨a.R, a.V, a.G, ⟨some ⟨gp, 0, none⟩, a.P.n, Cc⟩⟩), .slice (some ⟨gS, 0, none⟩) 1 1]) (by simp [results, Tryz.results31, go_sem, lY, ndC]) rfl ?_
          exact ⟨⟨a.R, a.V, a.G, ⟨some ⟨gp, 0, none⟩, a.P.n, Cc⟩⟩, some ⟨gS, 0, none⟩, 1, 1, [(MS, bS)], by rw [hfin.out.1]; rfl, by rw [hfin.out.1]; exact hNk.out, hL1.out, by rw [hfin.out.2]; rfl, Nat.le_refl _, qz⟩
        · go_simp
          clear lY
          have hkr := setN_kr (B := B) N2 ⟨a.R, a.V, a.G, ⟨some ⟨gp, 0, none⟩, a.P.n, Cc⟩⟩ (hB.out.at_ 0 rfl) (by dsimp only; omega)
          replace hok := hid_mk (hok.out.kr' hkr)
          replace hNk := hid_mk (hNk.out.kr hkr)
          clear hkr
          have qA := setN_below N2 ⟨a.R, a.V, a.G, ⟨some ⟨gp, 0, none⟩, a.P.n, Cc⟩⟩ qS (by omega : w.heap.size ≤ w.heap.size + 1 + 1)
          have hBn := hB.out.setN 0 rfl N2 ⟨a.R, a.V, a.G, ⟨some ⟨gp, 0, none⟩, a.P.n, Cc⟩⟩
          obtain ⟨wA, hwz⟩ : ∃ x, setN wS (w.heap.size + 1 + 1) N2 ⟨a.R, a.V, a.G, ⟨some ⟨gp, 0, none⟩, a.P.n, Cc⟩⟩ = x := ⟨_, rfl⟩
          rw [hwz] at hBn hNk qA hok
          replace hB : Hid (Bxs w.heap.size wA [⟨w.heap.size + 1 + 1, 30, ndC N2 ⟨a.R, a.V, a.G, ⟨some ⟨gp, 0, none⟩, a.P.n, Cc⟩⟩⟩, ⟨w.heap.size + 1, 32, msC ⟨M.kind, M.fr, M.to, M.term, false, M.index, M.lterm, M.rs, M.commit, M.s, M.vs⟩ b⟩, ⟨w.heap.size, 30, ndC N2 ⟨a.R, a.V, a.G, ⟨some ⟨gp, 0, none⟩, a.P.n, Cc⟩⟩⟩]) := hid_mk hBn
          clear hBn
          unfold setN set14 at hwz
          rw [hwz]
          clear hwz
          have hS1 := And.intro ((hB.out.at_ 2 rfl).atN) (prs_cells hNk.out.ps hkk.out)
          refine hK.out _ _ (fun _ => hS1) ?_
          clear hK K hS0
          have hS0 := hS1
          clear hS1
          refine onem (i := 6) hR (h := fun K hK => ?_)
          go_simp
          obtain ⟨gS, hgS⟩ : ∃ g, wA.heap.size = g := ⟨_, rfl⟩
          have hL1 : Hid (Mgs (wA.alloc (.cells (msC MS bS) 32)) B (some ⟨gS, 0, none⟩) 1 [(MS, bS)]) := by rw [← hgS]; exact mgs_box (Blk.new _ _ _) (hok.out.to ((Below.refl _ wA).alloc (Nat.le_refl _) (.cells (msC MS bS) 32)))
          replace hB := hid_mk (hB.out.other (.cells (msC MS bS) 32))
          replace hNk := hid_mk (hNk.out.to ((Below.refl _ wA).alloc (Nat.le_refl _) (.cells (msC MS bS) 32)))
          have qz := qA.alloc qA.size (.cells (msC MS bS) 32)
          obtain ⟨wz, hwS⟩ : ∃ x, wA.alloc (.cells (msC MS bS) 32) = x := ⟨_, rfl⟩
          rw [hwS] at hL1 hB hNk qz
          unfold msC at hwS
          rw [hwS, hgS]
          clear hgS hwS hok
          have hS1 := And.intro ((hB.out.at_ 2 rfl).atN) (prs_cells hNk.out.ps hkk.out)
          refine hK.out _ _ (fun _ => hS1) ?_
          clear hK K hS0
          have hS0 := hS1
          clear hS1
          refine onem (i := 8) hR (h := fun K hK => ?_)
          go_simp
          have hS1 := And.intro ((hB.out.at_ 2 rfl).atN) (prs_cells hNk.out.ps hkk.out)
          refine hK.out _ _ (fun _ => hS1) ?_
          clear hK K hS0
          have hS0 := hS1
          clear hS1
          refine donem hR (h := ?_)
          try simp only [Act.put]
          have lY := blk14c (hB.out.at_ 0 rfl)
          go_wp2
          refine ends_ret hQ (v := .tuple #[.agg (ndC N2 ⟨a.R, a.V, a.G, ⟨some ⟨gp, 0, none⟩, a.P.n, Cc⟩⟩), .slice (some ⟨gS, 0, none⟩) 1 1]) (by simp [results, Tryz.results31, go_sem, lY, ndC]) rfl ?_
          exact ⟨⟨a.R, a.V, a.G, ⟨some ⟨gp, 0, none⟩, a.P.n, Cc⟩⟩, some ⟨gS, 0, none⟩, 1, 1, [(MS, bS)], by rw [hfin.out.1]; rfl, by rw [hfin.out.1]; exact hNk.out, hL1.out, by rw [hfin.out.2]; rfl, Nat.le_refl _, qz⟩
set_option maxRecDepth 100000 in
set_option maxHeartbeats 12800000 in
theorem EFit3_any (N : Nd) (a : NdA) (M : Ms) (ok : Bool) (b : MsA) (w : World) {B : Nat} (hBw : B ≤ w.heap.size) (hN : NdOk w B N a) (hM : MsOk w B ⟨M.kind, M.fr, M.to, M.term, ok, M.index, M.lterm, M.rs, M.commit, M.s, M.vs⟩ b) (ht : Tab w) (mm : Int) (hm : w.cell? ⟨0, 0, none⟩ = some (.int .i64 mm)) (hK : fitC N ⟨M.kind, M.fr, M.to, M.term, ok, M.index, M.lterm, M.rs, M.commit, M.s, M.vs⟩ = true) (hok : ok = true) :
    Calls Tryz.prog 31 #[nodeV N a, msgV ⟨M.kind, M.fr, M.to, M.term, ok, M.index, M.lterm, M.rs, M.commit, M.s, M.vs⟩ b] w (RetNMs w B (fitN N ⟨M.kind, M.fr, M.to, M.term, ok, M.index, M.lterm, M.rs, M.commit, M.s, M.vs⟩) (fitL N ⟨M.kind, M.fr, M.to, M.term, ok, M.index, M.lterm, M.rs, M.commit, M.s, M.vs⟩)) := by
  have hmf : ∀ (fn : Fn) (first cap : Array Value) (w : World), (Instr.makeFunc fn first cap).run Tryz.prog w = .ok (.func fn first cap) w := fun _ _ _ _ => rfl
  have hm2 : Hid (∀ w', Below w.heap.size w w' → w'.cell? ⟨0, 0, none⟩ = some (.int .i64 mm)) := fun w' hb => (hb.cell (p := ⟨0, 0, none⟩) (cell_lt hm)).trans hm
  clear hm
  obtain ⟨z, hz⟩ : ∃ x, toldE N ⟨M.kind, M.fr, M.to, M.term, ok, M.index, M.lterm, M.rs, M.commit, M.s, M.vs⟩ 4 = x := ⟨_, rfl⟩
  obtain ⟨zl, hzl⟩ : ∃ x, decide (lastJ N.h.l < M.index) = x := ⟨_, rfl⟩
  obtain ⟨la, hla⟩ : ∃ x, lastJ N.h.l = x := ⟨_, rfl⟩
  have hr : Hid (z = true → rightN N = true) := fun e => by
    rw [← hz] at e
    unfold toldE at e
    simp only [Bool.and_eq_true] at e
    exact e.1
  have hT : Hid (fitT N ⟨M.kind, M.fr, M.to, M.term, ok, M.index, M.lterm, M.rs, M.commit, M.s, M.vs⟩ = (z && (M.term == N.h.t && (N.role == 2 && !(ok && zl))))) := by rw [Hid, ← hz, ← hzl]; rfl
  have hFs : Hid ((findP M.fr N.ps).isSome = true) := by
    have h := hK
    rw [fitC_T, Bool.and_eq_true] at h
    exact h.2
  have hTt : Hid (fitT N ⟨M.kind, M.fr, M.to, M.term, ok, M.index, M.lterm, M.rs, M.commit, M.s, M.vs⟩ = true) := by
    have h := hK
    rw [fitC_T, Bool.and_eq_true] at h
    exact h.1
  replace hok := hid_mk hok
  have hTo := fun (w : World) (h : NdOk w B N a) (h2 : MsOk w B ⟨M.kind, M.fr, M.to, M.term, ok, M.index, M.lterm, M.rs, M.commit, M.s, M.vs⟩ b) (h3 : Tab w) => ETold_any N a ⟨M.kind, M.fr, M.to, M.term, ok, M.index, M.lterm, M.rs, M.commit, M.s, M.vs⟩ b 4 w h h2 h3
  rw [hz] at hTo
  rw [hla] at hzl
  have hLA := fun (w : World) (h : NdOk w B N a) (hj : rightJ N.h.l = true) => ELast_any N a w h hj
  rw [hla] at hLA
  replace hz := hid_mk hz
  replace hla := hid_mk hla
  have hpb := hN.pb
  unfold nodeV at hTo hLA ⊢
  unfold msgV at hTo ⊢
  dsimp only at hTo ⊢
  obtain ⟨w0, hw0⟩ : ∃ x, (((w.alloc (.cells (ndC N a) 30)).alloc (.cells (msC ⟨M.kind, M.fr, M.to, M.term, ok, M.index, M.lterm, M.rs, M.commit, M.s, M.vs⟩ b) 32)).alloc (.cells (ndC zeroN nilA) 30)) = x := ⟨_, rfl⟩
  have hB : Hid (Bxs w.heap.size w0 [⟨w.heap.size + 1 + 1, 30, ndC zeroN nilA⟩, ⟨w.heap.size + 1, 32, msC ⟨M.kind, M.fr, M.to, M.term, ok, M.index, M.lterm, M.rs, M.commit, M.s, M.vs⟩ b⟩, ⟨w.heap.size, 30, ndC N a⟩]) := by
    rw [← hw0]
    exact ((((Bxs.nil w.heap.size w).add_ rfl (by omega) 30 (ndC N a)).add_ (by simp) (by omega) 32 (msC ⟨M.kind, M.fr, M.to, M.term, ok, M.index, M.lterm, M.rs, M.commit, M.s, M.vs⟩ b)).add_ (by simp) (by omega) 30 (ndC zeroN nilA))
  have q0 : Below w.heap.size w w0 := by rw [← hw0]; go_grown
  have z0 := q0.size
  dsimp only [ndC, msC, zeroN, nilA, zeroM, nilMA] at hw0
  refine calls_of_wpQ Tryz.func31 rfl ?_
  intro Q hQ
  simp only [Tryz.ntmps31, List.size_toArray, List.length_cons, List.length_nil, Nat.reduceAdd, Nat.reduceSub, Array.replicate_succ, Array.replicate_zero, List.push_toArray, List.append_toArray, List.nil_append, List.cons_append]
  go_upto_region 1 with fail
  try rw [hw0]
  clear hw0
  go_cut [35] from 8 (fun p35 wx => ∃ g : Bool, p35 = .bool g ∧ Below w.heap.size w wx ∧ Hid (Bxs w.heap.size wx [⟨w.heap.size + 1 + 1, 30, ndC zeroN nilA⟩, ⟨w.heap.size + 1, 32, msC ⟨M.kind, M.fr, M.to, M.term, ok, M.index, M.lterm, M.rs, M.commit, M.s, M.vs⟩ b⟩, ⟨w.heap.size, 30, ndC N a⟩]) ∧ Hid (fitT N ⟨M.kind, M.fr, M.to, M.term, ok, M.index, M.lterm, M.rs, M.commit, M.s, M.vs⟩ = !g))
  case first =>
    refine regm (fun w' => AtN w' w.heap.size N a ∧ AtM w' (w.heap.size + 1) ⟨M.kind, M.fr, M.to, M.term, ok, M.index, M.lterm, M.rs, M.commit, M.s, M.vs⟩ b) 28 28 [(0, 0), (0, 0), (3, 3), (4, 4), (12, 8), (16, 16), (48, 48), (16, 16), (144, 144), (272, 272), (592, 592), (1040, 1040), (2064, 2048), (4096, 4096), (12288, 12288), (20480, 20480), (36864, 36864), (69632, 65536), (131072, 131072), (393216, 393216), (655360, 655360), (1048576, 1048576), (3145728, 3145728), (1048576, 1048576), (9437184, 9437184), (22020096, 22020096), (34734080, 34734080), (67239936, 67239936)] (by exact And.intro ((hB.out.at_ 2 rfl).atN) ((hB.out.at_ 1 rfl).atM)) (fun hS0 hR => ?_)
    replace hB := hid_mk hB.out.drew
    have qd : Below w.heap.size w w0.drew := by go_grown
    obtain ⟨wd, hwd⟩ : ∃ x, w0.drew = x := ⟨_, rfl⟩
    rw [hwd] at hS0 hB  qd ⊢
    clear hwd q0 z0
    have zd := qd.size
    refine tkn (i := 0) hR hS0 (h := ?_)
    refine tkn (i := 1) hR hS0 (h := ?_)
    refine onem (i := 2) hR (h := fun K hK => ?_)
    go_simp
    refine (hTo _ (hN.to qd) (hM.to qd) (ht.to qd)).mono ?_
    rintro e wT ⟨rfl, hb1⟩
    have qT := (after (w := w) hb1 qd).1
    replace hB := hid_mk (hB.out.keep hb1)
    clear hb1 qd zd
    have hS1 := And.intro ((hB.out.at_ 2 rfl).atN) ((hB.out.at_ 1 rfl).atM)
    refine hK.out _ _ (fun _ => hS1) ?_
    clear hK K hS0
    have hS0 := hS1
    clear hS1
    refine tkn (i := 3) hR hS0 (h := ?_)
    refine tkn (i := 4) hR hS0 (h := ?_)
    cases z
    case false =>
      have h := hT.out
      rw [hTt.out] at h
      simp at h
    case true =>
      refine tkn (i := 5) hR hS0 (h := ?_)
      simp only [Act.put]
      refine tkn (i := 6) hR hS0 (h := ?_)
      refine tkn (i := 7) hR hS0 (h := ?_)
      refine tkn (i := 8) hR hS0 (h := ?_)
      refine tkn (i := 9) hR hS0 (h := ?_)
      by_cases g1 : M.term = N.h.t
      case neg =>
        have g1b : (M.term == N.h.t) = false := by simpa using g1
        have g1c : (M.term != N.h.t) = true := by simpa using g1
        replace g1 := hid_mk g1
        have h := hT.out
        rw [hTt.out, g1b] at h
        simp at h
      case pos =>
        have g1b : (M.term == N.h.t) = true := by simpa using g1
        have g1c : (M.term != N.h.t) = false := by simpa using g1
        replace g1 := hid_mk g1
        refine tkn (i := 10) hR hS0 (h := ?_)
        simp only [Act.put]
        refine tkn (i := 11) hR hS0 (h := ?_)
        refine tkn (i := 12) hR hS0 (h := ?_)
        refine tkn (i := 13) hR hS0 (h := ?_)
        refine tkn (i := 14) hR hS0 (h := ?_)
        by_cases g2 : N.role = 2
        case neg =>
          have g2b : (N.role == 2) = false := by simpa using g2
          have g2c : (N.role != 2) = true := by simpa using g2
          replace g2 := hid_mk g2
          have h := hT.out
          rw [hTt.out, g1b, g2b] at h
          simp at h
        case pos =>
          have g2b : (N.role == 2) = true := by simpa using g2
          have g2c : (N.role != 2) = false := by simpa using g2
          replace g2 := hid_mk g2
          refine tkn (i := 15) hR hS0 (h := ?_)
          simp only [Act.put]
          refine tkn (i := 16) hR hS0 (h := ?_)
          refine tkn (i := 17) hR hS0 (h := ?_)
          refine tkn (i := 18) hR hS0 (h := ?_)
          refine tkn (i := 19) hR hS0 (h := ?_)
          cases ok
          case false =>
            exact absurd hok.out (by decide)
          case true =>
            have why := hid_mk (hT.out.trans (show _ = !zl by rw [g1b, g2b]; rfl))
            refine tkn (i := 20) hR hS0 (h := ?_)
            simp only [Act.put]
            refine tkn (i := 21) hR hS0 (h := ?_)
            refine tkn (i := 22) hR hS0 (h := ?_)
            refine tkn (i := 23) hR hS0 (h := ?_)
            refine onem (i := 24) hR (h := fun K hK => ?_)
            go_simp
            refine (hLA _ (hN.to qT) (right_n (hr.out rfl)).1).mono ?_
            rintro e wU ⟨rfl, hb1⟩
            have qU := (after (w := w) hb1 qT).1
            replace hB := hid_mk (hB.out.keep hb1)
            clear hb1 qT
            have hS1 := And.intro ((hB.out.at_ 2 rfl).atN) ((hB.out.at_ 1 rfl).atM)
            refine hK.out _ _ (fun _ => hS1) ?_
            clear hK K hS0
            have hS0 := hS1
            clear hS1
            refine tkn (i := 25) hR hS0 (h := ?_)
            refine tkn (i := 26) hR hS0 (h := ?_)
            simp only [Act.put]
            refine tkn (i := 27) hR hS0 (h := ?_)
            refine donem hR (h := ?_)
            try simp only [Act.put]
            go_wp2_with fail
            go_meet
            exact ⟨zl, rfl, qU, hB, hid_mk (why.out)⟩
  case rest =>
    clear hB q0 z0 hT hTo hLA hr
    obtain ⟨g, rfl, q1, hB, hg⟩ := hcut
    obtain ⟨w1, hwc⟩ : ∃ x, x = wc := ⟨wc, rfl⟩
    subst hwc
    have z1 := q1.size
    cases g
    case true =>
      exact absurd hg.out (by rw [hTt.out]; decide)
    replace hg := hid_mk (show fitT N ⟨M.kind, M.fr, M.to, M.term, ok, M.index, M.lterm, M.rs, M.commit, M.s, M.vs⟩ = true from hg.out)
    have hr : Hid (rightN N = true) := by
      have e := hg.out
      unfold fitT toldE at e
      simp only [Bool.and_eq_true] at e
      exact e.1.1
    rcases idxP_find M.fr N.ps 0 with ⟨k, p, hix, hk, hfp, hse⟩ | ⟨hix, hfp⟩
    rotate_left
    · skip
      have h := hFs.out
      rw [hfp] at h
      cases h
    · skip
      have hix2 : idxP M.fr 0 N.ps = (k : Int) := by rw [hix]; omega
      replace hix := hid_mk hix2
      clear hix2
      have hlN := hN.ps.len
      have hkn : k < a.P.n := by rw [← hlN]; exact (List.getElem?_eq_some_iff.1 hk).1
      have k0 : (0 : Int) ≤ k := by omega
      have k1 : (k : Int) < a.P.n := by omega
      have k2 : ¬ (k : Int) < 0 := by omega
      have hfC := hid_mk (fit_yes hg.out hfp)
      have hp := (okPs_iff.1 (right_parts hr.out).2.2.2.2.2.2.2.2.2).1 p (findP_mem hfp).1
      have hcb := commit_bounds hr.out
      have hp9 := prs_len (right_parts hr.out).2.2.2.2.2.2.2.2.2
      have hpo := hid_mk (fitP_ok hfC.out hfp)
      have hmb := may_bounds (fit_parts hfC.out).2.1
      dsimp only at hmb
      replace hk := hid_mk hk
      replace hfp := hid_mk hfp
      replace hse := hid_mk hse
      have lX := blk14f (hB.out.at_ 2 rfl)
      have lM := blk11f (hB.out.at_ 1 rfl)
      go_wp2_with fail
      clear lX lM
      refine (IndexP_any N.ps ⟨M.kind, M.fr, M.to, M.term, ok, M.index, M.lterm, M.rs, M.commit, M.s, M.vs⟩ b (w.heap.size + 1) a.P.A a.P.n a.P.c _ (by omega) (hN.ps.to q1) (hB.out.at_ 1 rfl)).mono ?_
      rw [hix.out]
      rintro e w2 ⟨rfl, hb1⟩
      have q2 := (after (w := w) hb1 q1).1
      have z2 := q2.size
      replace hB := hid_mk (hB.out.keep hb1)
      clear hb1 q1 z1
      have zz2 := z2
      have lX := blk14c (hB.out.at_ 2 rfl)
      have lM := blk11v (hB.out.at_ 1 rfl)
      go_wp2_with fail
      clear lX lM
      refine (CloneP_own a.P.A a.P.n a.P.c N.ps _ (B := B) (by omega) (hN.ps.to q2)).mono ?_
      rintro e w3 ⟨CA, Cc, rfl, hown, hcc, hb1⟩
      have q3 := (after (w := w) hb1 q2).1
      have z3 := q3.size
      replace hB := hid_mk (hB.out.keep hb1)
      clear hb1 q2 z2
      obtain ⟨gp, rfl, hO⟩ := own_box hown (by omega)
      clear hown
      have lgp : w.heap.size ≤ gp := Nat.le_trans zz2 hO.lt.2
      clear zz2
      replace hO := hid_mk hO
      have lX := blk14f (hB.out.at_ 2 rfl)
      have lM := blk11f (hB.out.at_ 1 rfl)
      have hO5 := hO.out.cells_ hk.out
      go_upto_region 8 with fail
      clear lX lM hO5
      have hBn : Bxs w.heap.size (w3.setCell ⟨w.heap.size, 13, none⟩ (.slice (some ⟨gp, 0, none⟩) a.P.n Cc)) [⟨w.heap.size + 1 + 1, 30, ndC zeroN nilA⟩, ⟨w.heap.size + 1, 32, msC ⟨M.kind, M.fr, M.to, M.term, ok, M.index, M.lterm, M.rs, M.commit, M.s, M.vs⟩ b⟩, ⟨w.heap.size, 30, ndC N ⟨a.R, a.V, a.G, ⟨some ⟨gp, 0, none⟩, a.P.n, Cc⟩⟩⟩] := (hB.out.set 2 rfl 13 (.slice (some ⟨gp, 0, none⟩) a.P.n Cc))
      have q4 := (q3.setCell (p := ⟨w.heap.size, 13, none⟩) (by dsimp only; omega) (.slice (some ⟨gp, 0, none⟩) a.P.n Cc))
      have hOn : OwnP (w3.setCell ⟨w.heap.size, 13, none⟩ (.slice (some ⟨gp, 0, none⟩) a.P.n Cc)) w2.heap.size gp Cc a.P.n N.ps := (hO.out.far (hB.out.at_ 2 rfl) (by dsimp only; decide) 13 (.slice (some ⟨gp, 0, none⟩) a.P.n Cc))
      obtain ⟨w4, hwz⟩ : ∃ x, (w3.setCell ⟨w.heap.size, 13, none⟩ (.slice (some ⟨gp, 0, none⟩) a.P.n Cc)) = x := ⟨_, rfl⟩
      rw [hwz] at hBn q4 hOn
      try rw [hwz]
      clear hwz
      replace hB := hid_mk hBn
      clear hBn
      replace hO := hid_mk hOn
      clear hOn
      have z4 := q4.size
      clear q3 z3
      cases ok
      case false => exact absurd hok.out (by decide)
      have hix3 := (fit_parts hfC.out).2.2.2.2.2.2.1 rfl
      dsimp only at hix3
      have hPe : fitP N ⟨M.kind, M.fr, M.to, M.term, true, M.index, M.lterm, M.rs, M.commit, M.s, M.vs⟩ p = ⟨p.id, max p.mt M.index + 1, max p.mt M.index⟩ := rfl
      obtain ⟨X, hX⟩ : ∃ x, max p.mt M.index = x := ⟨_, rfl⟩
      have hXb : 0 ≤ X ∧ X ≤ 1073741824 := by omega
      rw [hX] at hPe
      obtain ⟨PQ, hPQe⟩ : ∃ x, x = (⟨p.id, X + 1, X⟩ : Pr) := ⟨_, rfl⟩
      obtain ⟨N2, hN2e⟩ : ∃ x, x = psN N (setP M.fr PQ N.ps) := ⟨_, rfl⟩
      obtain ⟨N3, hN3e⟩ : ∃ x, x = sureN N2 := ⟨_, rfl⟩
      have hfin0 : fitN N ⟨M.kind, M.fr, M.to, M.term, true, M.index, M.lterm, M.rs, M.commit, M.s, M.vs⟩ = N3 ∧ fitL N ⟨M.kind, M.fr, M.to, M.term, true, M.index, M.lterm, M.rs, M.commit, M.s, M.vs⟩ = (if lastJ N.h.l < PQ.nx then [] else [sendM N3 PQ]) := by
        have e1 : fitN N ⟨M.kind, M.fr, M.to, M.term, true, M.index, M.lterm, M.rs, M.commit, M.s, M.vs⟩ = N3 := by
          unfold fitN
          rw [if_pos hfC.out]
          simp only [hfp.out]
          rw [hPe, hN3e, hN2e, hPQe]
          rfl
        refine ⟨e1, ?_⟩
        unfold fitL
        rw [if_pos hfC.out]
        simp only [hfp.out]
        rw [hPe, e1, hPQe]
        by_cases h : lastJ N.h.l < X + 1
        · rw [if_pos h]; simp [h]
        · rw [if_neg h]; simp [h]
      have hNr2 : Hid (rightN N2 = true) := by
        have h := fit_base hfC.out hfp.out
        rw [hPe, ← hPQe] at h
        rw [hN2e]
        exact h
      have hs3 := sure_same N2
      rw [← hN3e] at hs3
      have hNr : Hid (rightN N3 = true) := by rw [hN3e]; exact sure_right hNr2.out
      have hhh : N2.h = N.h ∧ N2.got = N.got := by rw [hN2e]; exact ⟨rfl, rfl⟩
      have hPQ : Hid (1 ≤ PQ.nx ∧ PQ.nx ≤ lastJ N3.h.l + 1) := by
        have h := hpo.out.2.1
        rw [hPe, ← hPQe] at h
        rw [hs3.2.1, hhh.1]
        exact h
      have hps : Hid (N2.ps = N.ps.set k PQ) := by rw [hN2e]; exact hse.out PQ
      have hkk : Hid (N3.ps[k]? = some PQ) := by
        rw [Hid, hs3.2.2.2.2.2.2.1, hps.out, List.getElem?_set_self (by rw [hlN]; exact hkn)]
      have hla3 : Hid (lastJ N3.h.l = lastJ N.h.l) := by rw [Hid, hs3.2.1, hhh.1]
      have hcs : ∀ aa, ndC N aa = ndC N2 aa := fun aa => by rw [hN2e]; rfl
      have hk1 : (N.ps.set k (⟨p.id, p.nx, X⟩ : Pr))[k]? = some ⟨p.id, p.nx, X⟩ := List.getElem?_set_self (by rw [hlN]; exact hkn)
      have hse2 : (N.ps.set k (⟨p.id, p.nx, X⟩ : Pr)).set k ⟨p.id, X + 1, X⟩ = N2.ps := by rw [List.set_set, hps.out, hPQe]
      obtain ⟨la, hla⟩ : ∃ x, lastJ N.h.l = x := ⟨_, rfl⟩
      rw [hla] at hfin0 hla3
      obtain ⟨MS, hMS⟩ : ∃ x, sendM N3 PQ = x := ⟨_, rfl⟩
      rw [hMS] at hfin0
      replace hfin0 := hid_mk hfin0
      replace hMS := hid_mk hMS
      have x3 : IntKind.i64.wrap (X + 1) = X + 1 := IntWalk.i64_in _ (by omega)
      have hnx : PQ.nx = X + 1 := by rw [hPQe]
      replace hnx := hid_mk hnx
      replace hPe := hid_mk hPe
      replace hN2e := hid_mk hN2e
      replace hN3e := hid_mk hN3e
      replace hPQe := hid_mk hPQe
      replace hla := hid_mk hla
      replace hs3 := hid_mk hs3
      replace hhh := hid_mk hhh
      replace hk1 := hid_mk hk1
      replace hse2 := hid_mk hse2
      have lM := blk11f (hB.out.at_ 1 rfl)
      go_upto_region 11 with fail
      clear lM
      refine regm (fun w' => w'.cell? ⟨gp, k * 3 + 2, none⟩ = some (.int .i64 p.mt) ∧ w'.cell? ⟨w.heap.size + 1, 5, none⟩ = some (.int .i64 M.index)) 10 11 [(0, 0), (0, 0), (2, 2), (4, 4), (8, 8), (0, 0), (32, 32), (80, 80), (255, 1), (511, 256), (767, 640)] (by exact And.intro ((hO.out.cells_ hk.out).2.2.1) ((hB.out.at_ 1 rfl).cell 5)) (fun hS0 hR => ?_)
      replace hO := hid_mk (hO.out.keep (show Below w4.heap.size w4 w4.drew by go_grown))
      replace hB := hid_mk hB.out.drew
      have qd : Below w.heap.size w w4.drew := by go_grown
      obtain ⟨wd, hwd⟩ : ∃ x, w4.drew = x := ⟨_, rfl⟩
      rw [hwd] at hS0 hO hB  qd ⊢
      clear hwd q4 z4
      have zd := qd.size
      refine tkn (i := 0) hR hS0 (h := ?_)
      refine tkn (i := 1) hR hS0 (h := ?_)
      refine tkn (i := 2) hR hS0 (h := ?_)
      refine tkn (i := 3) hR hS0 (h := ?_)
      refine tkn (i := 4) hR hS0 (h := ?_)
      simp only [Act.put]
      refine tkn (i := 5) hR hS0 (h := ?_)
      refine tkn (i := 6) hR hS0 (h := ?_)
      refine tkn (i := 7) hR hS0 (h := ?_)
      refine onem (i := 8) hR (h := fun K hK => ?_)
      go_simp
      have hS1 := And.intro ((hO.out.cells_ hk.out).2.2.1) ((hB.out.at_ 1 rfl).cell 5)
      refine hK.out _ _ (fun _ => hS1) ?_
      clear hK K hS0
      have hS0 := hS1
      clear hS1
      refine tkn (i := 9) hR hS0 (h := ?_)
      have lO := hO.out.cells_ hk.out
      refine onem (i := 10) hR (h := fun K hK => ?_)
      go_simp
      refine hK.out _ _ (fun h => absurd h (by decide)) ?_
      clear hK K
      refine donem hR (h := ?_)
      try simp only [Act.put]
      clear lO
      try rw [hX]
      have hOn := hO.out.mt hk.out X
      have hBn := hB.out.row hO.out (by simp) (k * 3 + 2) (.int .i64 X)
      have q9 := qd.setCell (p := ⟨gp, k * 3 + 2, none⟩) (by dsimp only; omega) (.int .i64 X)
      obtain ⟨w9, hw9⟩ : ∃ x, wd.setCell ⟨gp, k * 3 + 2, none⟩ (.int .i64 X) = x := ⟨_, rfl⟩
      rw [hw9] at hOn hBn q9 ⊢
      replace hB := hid_mk hBn
      replace hO := hid_mk hOn
      clear hw9 hBn hOn qd zd hX
      have z9 := q9.size
      have lO := hO.out.cells_ hk1.out
      have lX := blk14f (hB.out.at_ 2 rfl)
      go_upto_region 13 with fail
      clear lX lO
      have hOn := hO.out.nx hk1.out (X + 1)
      have hBn := hB.out.row hO.out (by simp) (k * 3 + 1) (.int .i64 (X + 1))
      have q10 := q9.setCell (p := ⟨gp, k * 3 + 1, none⟩) (by dsimp only; omega) (.int .i64 (X + 1))
      obtain ⟨w10, hw9⟩ : ∃ x, w9.setCell ⟨gp, k * 3 + 1, none⟩ (.int .i64 (X + 1)) = x := ⟨_, rfl⟩
      rw [hw9] at hOn hBn q10 ⊢
      dsimp only at hOn
      rw [hse2.out] at hOn
      replace hB : Hid (Bxs w.heap.size w10 [⟨w.heap.size + 1 + 1, 30, ndC zeroN nilA⟩, ⟨w.heap.size + 1, 32, msC ⟨M.kind, M.fr, M.to, M.term, true, M.index, M.lterm, M.rs, M.commit, M.s, M.vs⟩ b⟩, ⟨w.heap.size, 30, ndC N2 ⟨a.R, a.V, a.G, ⟨some ⟨gp, 0, none⟩, a.P.n, Cc⟩⟩⟩]) := by rw [← hcs]; exact hBn
      have hNk : Hid (NdOk w10 B N2 ⟨a.R, a.V, a.G, ⟨some ⟨gp, 0, none⟩, a.P.n, Cc⟩⟩) := ⟨by rw [hhh.out.1]; exact hN.recs.to q10, hN.rc, hN.rb, by rw [hhh.out.1]; exact hN.vs.to q10, hN.vc, hN.vb, by rw [hhh.out.1]; exact hN.sb, by rw [hhh.out.2]; exact hN.got.to q10, hN.gc, hN.gb, hOn.prs, hcc, hN.pb⟩
      clear hw9 hBn hOn hO q9 z9 x3
      have z10 := q10.size
      have lX := blk14c (hB.out.at_ 2 rfl)
      go_wp2_with fail
      clear lX
      refine (ESure_any N2 ⟨a.R, a.V, a.G, ⟨some ⟨gp, 0, none⟩, a.P.n, Cc⟩⟩ _ hNk.out hNr2.out mm (hm2.out _ q10)).mono ?_
      rw [← hN3e.out]
      rintro e w11 ⟨rfl, hb1⟩
      have q11 := (after (w := w) hb1 q10).1
      have z11 := q11.size
      replace hB := hid_mk (hB.out.keep hb1)
      replace hNk := hid_mk (hNk.out.to hb1)
      clear hb1 q10 z10
      unfold nodeV
      have lX := blk14f (hB.out.at_ 2 rfl)
      go_upto_region 14 with fail
      clear lX
      have q12 := setN_below N3 ⟨a.R, a.V, a.G, ⟨some ⟨gp, 0, none⟩, a.P.n, Cc⟩⟩ q11 (by omega : w.heap.size ≤ w.heap.size)
      have hNkn := hid_mk (hNk.out.kr (setN_kr (B := B) N3 ⟨a.R, a.V, a.G, ⟨some ⟨gp, 0, none⟩, a.P.n, Cc⟩⟩ (hB.out.at_ 2 rfl) (by dsimp only; omega)))
      have hBn := hB.out.setN 2 rfl N3 ⟨a.R, a.V, a.G, ⟨some ⟨gp, 0, none⟩, a.P.n, Cc⟩⟩
      obtain ⟨w12, hwz⟩ : ∃ x, setN w11 (w.heap.size) N3 ⟨a.R, a.V, a.G, ⟨some ⟨gp, 0, none⟩, a.P.n, Cc⟩⟩ = x := ⟨_, rfl⟩
      rw [hwz] at q12 hNkn hBn
      unfold setN set14 at hwz
      try rw [hwz]
      clear hwz
      replace hB : Hid (Bxs w.heap.size w12 [⟨w.heap.size + 1 + 1, 30, ndC zeroN nilA⟩, ⟨w.heap.size + 1, 32, msC ⟨M.kind, M.fr, M.to, M.term, true, M.index, M.lterm, M.rs, M.commit, M.s, M.vs⟩ b⟩, ⟨w.heap.size, 30, ndC N3 ⟨a.R, a.V, a.G, ⟨some ⟨gp, 0, none⟩, a.P.n, Cc⟩⟩⟩]) := hid_mk hBn
      clear hBn
      replace hNk := hid_mk hNkn
      clear hNkn
      have z12 := q12.size
      clear q11 z11
      replace hNk : Hid (NdOk w12 B N3 ⟨a.R, a.V, a.G, ⟨some ⟨gp, 0, none⟩, a.P.n, Cc⟩⟩) := hid_mk (nd_same hNk.out hs3.out.2.1 hs3.out.2.2.2.2.2.1 hs3.out.2.2.2.2.2.2.1)
      refine regm (fun w' => AtN w' w.heap.size N3 ⟨a.R, a.V, a.G, ⟨some ⟨gp, 0, none⟩, a.P.n, Cc⟩⟩ ∧ w'.cell? ⟨gp, k * 3 + 1, none⟩ = some (.int .i64 PQ.nx)) 9 9 [(0, 0), (1, 1), (0, 0), (6, 6), (8, 8), (16, 16), (0, 0), (64, 64), (160, 160)] (by exact And.intro ((hB.out.at_ 2 rfl).atN) ((prs_cells hNk.out.ps hkk.out).2.1)) (fun hS0 hR => ?_)
      replace hB := hid_mk hB.out.drew
      replace hNk := hid_mk (hNk.out.to (show Below w12.heap.size w12 w12.drew by go_grown))
      have qd : Below w.heap.size w w12.drew := by go_grown
      obtain ⟨wd, hwd⟩ : ∃ x, w12.drew = x := ⟨_, rfl⟩
      rw [hwd] at hS0 hB hNk qd ⊢
      clear hwd q12 z12
      have zd := qd.size
      refine tkn (i := 0) hR hS0 (h := ?_)
      refine tkn (i := 1) hR hS0 (h := ?_)
      refine tkn (i := 2) hR hS0 (h := ?_)
      refine tkn (i := 3) hR hS0 (h := ?_)
      refine tkn (i := 4) hR hS0 (h := ?_)
      simp only [Act.put]
      refine tkn (i := 5) hR hS0 (h := ?_)
      refine tkn (i := 6) hR hS0 (h := ?_)
      refine onem (i := 7) hR (h := fun K hK => ?_)
      go_simp
      refine (ELast_any N3 ⟨a.R, a.V, a.G, ⟨some ⟨gp, 0, none⟩, a.P.n, Cc⟩⟩ _ hNk.out (right_n hNr.out).1).mono ?_
      rw [hla3.out]
      rintro e w13 ⟨rfl, hb1⟩
      have q13 := (after (w := w) hb1 qd).1
      replace hB := hid_mk (hB.out.keep hb1)
      replace hNk := hid_mk (hNk.out.to hb1)
      clear hb1 qd zd
      have hS1 := And.intro ((hB.out.at_ 2 rfl).atN) ((prs_cells hNk.out.ps hkk.out).2.1)
      refine hK.out _ _ (fun _ => hS1) ?_
      clear hK K hS0
      have hS0 := hS1
      clear hS1
      refine tkn (i := 8) hR hS0 (h := ?_)
      refine donem hR (h := ?_)
      try simp only [Act.put]
      have z13 := q13.size
      by_cases g5 : la < PQ.nx
      case pos =>
        have g5b : decide (la < PQ.nx) = true := by simpa using g5
        have hno := hid_mk (show fitN N ⟨M.kind, M.fr, M.to, M.term, true, M.index, M.lterm, M.rs, M.commit, M.s, M.vs⟩ = N3 ∧ fitL N ⟨M.kind, M.fr, M.to, M.term, true, M.index, M.lterm, M.rs, M.commit, M.s, M.vs⟩ = [] from ⟨hfin0.out.1, by rw [hfin0.out.2, if_pos g5]⟩)
        replace g5 := hid_mk g5
        have lX := blk14f (hB.out.at_ 2 rfl)
        have lY := blk14f (hB.out.at_ 0 rfl)
        have lM := blk11f (hB.out.at_ 1 rfl)
        go_wp2
        clear lX lY lM
        have kf := setN_blk (N := N3) (a := ⟨a.R, a.V, a.G, ⟨some ⟨gp, 0, none⟩, a.P.n, Cc⟩⟩) (hB.out.at_ 0 rfl)
        have hkr := setN_kr (B := B) N3 ⟨a.R, a.V, a.G, ⟨some ⟨gp, 0, none⟩, a.P.n, Cc⟩⟩ (hB.out.at_ 0 rfl) (by dsimp only; omega)
        have hNz := hNk.out.kr hkr
        unfold setN set14 at kf
        have rs := blk14c kf
        refine ends_ret hQ (v := .tuple #[.agg (ndC N3 ⟨a.R, a.V, a.G, ⟨some ⟨gp, 0, none⟩, a.P.n, Cc⟩⟩), .slice none 0 0]) (by simp [results, Tryz.results31, go_sem, rs, ndC]) rfl ?_
        exact ⟨⟨a.R, a.V, a.G, ⟨some ⟨gp, 0, none⟩, a.P.n, Cc⟩⟩, none, 0, 0, [], by rw [hno.out.1]; rfl, by rw [hno.out.1]; exact hNz, mgs_nil, by rw [hno.out.2]; rfl, Nat.le_refl _, setN_below N3 ⟨a.R, a.V, a.G, ⟨some ⟨gp, 0, none⟩, a.P.n, Cc⟩⟩ q13 (by omega)⟩
      have g5b : decide (la < PQ.nx) = false := by simpa using g5
      have hfin1 := hid_mk (show fitN N ⟨M.kind, M.fr, M.to, M.term, true, M.index, M.lterm, M.rs, M.commit, M.s, M.vs⟩ = N3 ∧ fitL N ⟨M.kind, M.fr, M.to, M.term, true, M.index, M.lterm, M.rs, M.commit, M.s, M.vs⟩ = [MS] from ⟨hfin0.out.1, by rw [hfin0.out.2, if_neg g5]⟩)
      replace g5 := hid_mk g5
      have hfin := hid_mk (hfin1.out)
      have lX := blk14f (hB.out.at_ 2 rfl)
      have lY := blk14f (hB.out.at_ 0 rfl)
      have lM := blk11f (hB.out.at_ 1 rfl)
      have lp := prs_cells hNk.out.ps hkk.out
      go_upto_region 16 with fail
      clear lX lY lM lp
      refine regm (fun w' => AtN w' w.heap.size N3 ⟨a.R, a.V, a.G, ⟨some ⟨gp, 0, none⟩, a.P.n, Cc⟩⟩ ∧ w'.cell? ⟨gp, k * 3, none⟩ = some (.int .i64 PQ.id) ∧ w'.cell? ⟨gp, k * 3 + 1, none⟩ = some (.int .i64 PQ.nx) ∧ w'.cell? ⟨gp, k * 3 + 2, none⟩ = some (.int .i64 PQ.mt)) 11 11 [(0, 0), (0, 0), (0, 0), (4, 4), (0, 0), (24, 24), (32, 32), (66, 66), (128, 128), (129, 1), (1023, 256)] (by exact And.intro ((hB.out.at_ 2 rfl).atN) (prs_cells hNk.out.ps hkk.out)) (fun hS0 hR => ?_)
      replace hB := hid_mk hB.out.drew
      replace hNk := hid_mk (hNk.out.to (show Below w13.heap.size w13 w13.drew by go_grown))
      have qd : Below w.heap.size w w13.drew := by go_grown
      obtain ⟨wd, hwd⟩ : ∃ x, w13.drew = x := ⟨_, rfl⟩
      rw [hwd] at hS0 hB hNk qd ⊢
      clear hwd q13 z13
      have zd := qd.size
      refine tkn (i := 0) hR hS0 (h := ?_)
      refine tkn (i := 1) hR hS0 (h := ?_)
      refine tkn (i := 2) hR hS0 (h := ?_)
      refine tkn (i := 3) hR hS0 (h := ?_)
      refine tkn (i := 4) hR hS0 (h := ?_)
      simp only [Act.put]
      refine tkn (i := 5) hR hS0 (h := ?_)
      refine tkn (i := 6) hR hS0 (h := ?_)
      refine onem (i := 7) hR (h := fun K hK => ?_)
      go_simp
      refine (ESend_any N3 ⟨a.R, a.V, a.G, ⟨some ⟨gp, 0, none⟩, a.P.n, Cc⟩⟩ PQ _ (Nat.le_trans hBw qd.size) hNk.out hNr.out hPQ.out).mono ?_
      rw [hMS.out]
      rintro e wS ⟨bS, rfl, hok, hb1⟩
      have qS := (after (w := w) hb1 qd).1
      replace hB := hid_mk (hB.out.keep hb1)
      replace hNk := hid_mk (hNk.out.to hb1)
      replace hok := hid_mk hok
      unfold msgV
      clear hb1 qd zd
      have hS1 := And.intro ((hB.out.at_ 2 rfl).atN) (prs_cells hNk.out.ps hkk.out)
      refine hK.out _ _ (fun _ => hS1) ?_
      clear hK K hS0
      have hS0 := hS1
      clear hS1
      have lY := blk14f (hB.out.at_ 0 rfl)
      refine twom (i := 8) (j := 9) hR (h := fun K hK => ?_) (h' := fun K hK => ?_)
      · go_simp
        clear lY
        obtain ⟨gS, hgS⟩ : ∃ g, wS.heap.size = g := ⟨_, rfl⟩
        have hL1 : Hid (Mgs (wS.alloc (.cells (msC MS bS) 32)) B (some ⟨gS, 0, none⟩) 1 [(MS, bS)]) := by rw [← hgS]; exact mgs_box (Blk.new _ _ _) (hok.out.to ((Below.refl _ wS).alloc (Nat.le_refl _) (.cells (msC MS bS) 32)))
        replace hB := hid_mk (hB.out.other (.cells (msC MS bS) 32))
        replace hNk := hid_mk (hNk.out.to ((Below.refl _ wS).alloc (Nat.le_refl _) (.cells (msC MS bS) 32)))
        have qA := qS.alloc qS.size (.cells (msC MS bS) 32)
        obtain ⟨wA, hwS⟩ : ∃ x, wS.alloc (.cells (msC MS bS) 32) = x := ⟨_, rfl⟩
        rw [hwS] at hL1 hB hNk qA
        unfold msC at hwS
        rw [hwS, hgS]
        clear hgS hwS hok
        have hS1 := And.intro ((hB.out.at_ 2 rfl).atN) (prs_cells hNk.out.ps hkk.out)
        refine hK.out _ _ (fun _ => hS1) ?_
        clear hK K hS0
        have hS0 := hS1
        clear hS1
        have lY := blk14f (hB.out.at_ 0 rfl)
        refine onem (i := 9) hR (h := fun K hK => ?_)
        go_simp
        clear lY
        have hkr := setN_kr (B := B) N3 ⟨a.R, a.V, a.G, ⟨some ⟨gp, 0, none⟩, a.P.n, Cc⟩⟩ (hB.out.at_ 0 rfl) (by dsimp only; omega)
        replace hL1 := hid_mk (mgs_setN hL1.out (hB.out.at_ 0 rfl) (by dsimp only; omega) N3 ⟨a.R, a.V, a.G, ⟨some ⟨gp, 0, none⟩, a.P.n, Cc⟩⟩)
        replace hNk := hid_mk (hNk.out.kr hkr)
        clear hkr
        have qz := setN_below N3 ⟨a.R, a.V, a.G, ⟨some ⟨gp, 0, none⟩, a.P.n, Cc⟩⟩ qA (by omega : w.heap.size ≤ w.heap.size + 1 + 1)
        have hBn := hB.out.setN 0 rfl N3 ⟨a.R, a.V, a.G, ⟨some ⟨gp, 0, none⟩, a.P.n, Cc⟩⟩
        obtain ⟨wz, hwz⟩ : ∃ x, setN wA (w.heap.size + 1 + 1) N3 ⟨a.R, a.V, a.G, ⟨some ⟨gp, 0, none⟩, a.P.n, Cc⟩⟩ = x := ⟨_, rfl⟩
        rw [hwz] at hBn hNk qz hL1
        replace hB : Hid (Bxs w.heap.size wz [⟨w.heap.size + 1 + 1, 30, ndC N3 ⟨a.R, a.V, a.G, ⟨some ⟨gp, 0, none⟩, a.P.n, Cc⟩⟩⟩, ⟨w.heap.size + 1, 32, msC ⟨M.kind, M.fr, M.to, M.term, true, M.index, M.lterm, M.rs, M.commit, M.s, M.vs⟩ b⟩, ⟨w.heap.size, 30, ndC N3 ⟨a.R, a.V, a.G, ⟨some ⟨gp, 0, none⟩, a.P.n, Cc⟩⟩⟩]) := hid_mk hBn
        clear hBn
        unfold setN set14 at hwz
        rw [hwz]
        clear hwz
        have hS1 := And.intro ((hB.out.at_ 2 rfl).atN) (prs_cells hNk.out.ps hkk.out)
        refine hK.out _ _ (fun _ => hS1) ?_
        clear hK K hS0
        have hS0 := hS1
        clear hS1
        refine onem (i := 10) hR (h := fun K hK => ?_)
        go_simp
        have hS1 := And.intro ((hB.out.at_ 2 rfl).atN) (prs_cells hNk.out.ps hkk.out)
        refine hK.out _ _ (fun _ => hS1) ?_
        clear hK K hS0
        have hS0 := hS1
        clear hS1
        refine donem hR (h := ?_)
        try simp only [Act.put]
        have lY := blk14c (hB.out.at_ 0 rfl)
        go_wp2
        refine ends_ret hQ (v := .tuple #[.agg (ndC N3 ⟨a.R, a.V, a.G, ⟨some ⟨gp, 0, none⟩, a.P.n, Cc⟩⟩), .slice (some ⟨gS, 0, none⟩) 1 1]) (by simp [results, Tryz.results31, go_sem, lY, ndC]) rfl ?_
        exact ⟨⟨a.R, a.V, a.G, ⟨some ⟨gp, 0, none⟩, a.P.n, Cc⟩⟩, some ⟨gS, 0, none⟩, 1, 1, [(MS, bS)], by rw [hfin.out.1]; rfl, by rw [hfin.out.1]; exact hNk.out, hL1.out, by rw [hfin.out.2]; rfl, Nat.le_refl _, qz⟩
      · go_simp
        clear lY
        have hkr := setN_kr (B := B) N3 ⟨a.R, a.V, a.G, ⟨some ⟨gp, 0, none⟩, a.P.n, Cc⟩⟩ (hB.out.at_ 0 rfl) (by dsimp only; omega)
        replace hok := hid_mk (hok.out.kr' hkr)
        replace hNk := hid_mk (hNk.out.kr hkr)
        clear hkr
        have qA := setN_below N3 ⟨a.R, a.V, a.G, ⟨some ⟨gp, 0, none⟩, a.P.n, Cc⟩⟩ qS (by omega : w.heap.size ≤ w.heap.size + 1 + 1)
        have hBn := hB.out.setN 0 rfl N3 ⟨a.R, a.V, a.G, ⟨some ⟨gp, 0, none⟩, a.P.n, Cc⟩⟩
        obtain ⟨wA, hwz⟩ : ∃ x, setN wS (w.heap.size + 1 + 1) N3 ⟨a.R, a.V, a.G, ⟨some ⟨gp, 0, none⟩, a.P.n, Cc⟩⟩ = x := ⟨_, rfl⟩
        rw [hwz] at hBn hNk qA hok
        replace hB : Hid (Bxs w.heap.size wA [⟨w.heap.size + 1 + 1, 30, ndC N3 ⟨a.R, a.V, a.G, ⟨some ⟨gp, 0, none⟩, a.P.n, Cc⟩⟩⟩, ⟨w.heap.size + 1, 32, msC ⟨M.kind, M.fr, M.to, M.term, true, M.index, M.lterm, M.rs, M.commit, M.s, M.vs⟩ b⟩, ⟨w.heap.size, 30, ndC N3 ⟨a.R, a.V, a.G, ⟨some ⟨gp, 0, none⟩, a.P.n, Cc⟩⟩⟩]) := hid_mk hBn
        clear hBn
        unfold setN set14 at hwz
        rw [hwz]
        clear hwz
        have hS1 := And.intro ((hB.out.at_ 2 rfl).atN) (prs_cells hNk.out.ps hkk.out)
        refine hK.out _ _ (fun _ => hS1) ?_
        clear hK K hS0
        have hS0 := hS1
        clear hS1
        refine onem (i := 8) hR (h := fun K hK => ?_)
        go_simp
        obtain ⟨gS, hgS⟩ : ∃ g, wA.heap.size = g := ⟨_, rfl⟩
        have hL1 : Hid (Mgs (wA.alloc (.cells (msC MS bS) 32)) B (some ⟨gS, 0, none⟩) 1 [(MS, bS)]) := by rw [← hgS]; exact mgs_box (Blk.new _ _ _) (hok.out.to ((Below.refl _ wA).alloc (Nat.le_refl _) (.cells (msC MS bS) 32)))
        replace hB := hid_mk (hB.out.other (.cells (msC MS bS) 32))
        replace hNk := hid_mk (hNk.out.to ((Below.refl _ wA).alloc (Nat.le_refl _) (.cells (msC MS bS) 32)))
        have qz := qA.alloc qA.size (.cells (msC MS bS) 32)
        obtain ⟨wz, hwS⟩ : ∃ x, wA.alloc (.cells (msC MS bS) 32) = x := ⟨_, rfl⟩
        rw [hwS] at hL1 hB hNk qz
        unfold msC at hwS
        rw [hwS, hgS]
        clear hgS hwS hok
        have hS1 := And.intro ((hB.out.at_ 2 rfl).atN) (prs_cells hNk.out.ps hkk.out)
        refine hK.out _ _ (fun _ => hS1) ?_
        clear hK K hS0
        have hS0 := hS1
        clear hS1
        refine onem (i := 10) hR (h := fun K hK => ?_)
        go_simp
        have hS1 := And.intro ((hB.out.at_ 2 rfl).atN) (prs_cells hNk.out.ps hkk.out)
        refine hK.out _ _ (fun _ => hS1) ?_
        clear hK K hS0
        have hS0 := hS1
        clear hS1
        refine donem hR (h := ?_)
        try simp only [Act.put]
        have lY := blk14c (hB.out.at_ 0 rfl)
        go_wp2
        refine ends_ret hQ (v := .tuple #[.agg (ndC N3 ⟨a.R, a.V, a.G, ⟨some ⟨gp, 0, none⟩, a.P.n, Cc⟩⟩), .slice (some ⟨gS, 0, none⟩) 1 1]) (by simp [results, Tryz.results31, go_sem, lY, ndC]) rfl ?_
        exact ⟨⟨a.R, a.V, a.G, ⟨some ⟨gp, 0, none⟩, a.P.n, Cc⟩⟩, some ⟨gS, 0, none⟩, 1, 1, [(MS, bS)], by rw [hfin.out.1]; rfl, by rw [hfin.out.1]; exact hNk.out, hL1.out, by rw [hfin.out.2]; rfl, Nat.le_refl _, qz⟩
theorem EFit_any (N : Nd) (a : NdA) (M : Ms) (b : MsA) (w : World) {B : Nat} (hBw : B ≤ w.heap.size) (hN : NdOk w B N a) (hM : MsOk w B M b) (ht : Tab w) (mm : Int) (hm : w.cell? ⟨0, 0, none⟩ = some (.int .i64 mm)) :
    Calls Tryz.prog 31 #[nodeV N a, msgV M b] w (RetNMs w B (fitN N M) (fitL N M)) := by
  cases h : fitC N M with
  | false => exact EFit1_any N a M M.ok b w hBw hN hM ht mm hm h
  | true =>
    cases h2 : M.ok with
    | false =>
      have e := EFit2_any N a M M.ok b w hBw hN hM ht mm hm h h2
      exact e
    | true =>
      have e := EFit3_any N a M M.ok b w hBw hN hM ht mm hm h h2
      exact e
end Go.Proofs.YtncdjmpdbinanaaGreatDoor
