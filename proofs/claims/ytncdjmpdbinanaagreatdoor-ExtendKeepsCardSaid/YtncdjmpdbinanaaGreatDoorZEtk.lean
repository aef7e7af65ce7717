/-
  WHAT IS PROVED HERE: what extend.Take hands back of any node and message. Conditions: the slices are of at most 2^47 bytes; the library's table stands.
-/
import Derived.Test.YtncdjmpdbinanaaGreatDoorZGEx
import Derived.Test.YtncdjmpdbinanaaGreatDoorZGEw
import Derived.Test.YtncdjmpdbinanaaGreatDoorZEsr
import Derived.Test.YtncdjmpdbinanaaGreatDoorZGNd
import Derived.Test.YtncdjmpdbinanaaGreatDoorZGQv
import Derived.Test.YtncdjmpdbinanaaGreatDoorZGKjS
import Derived.Test.YtncdjmpdbinanaaGreatDoorZGEl0
import Derived.Deep.DeepCutAuto
namespace Go.Proofs.YtncdjmpdbinanaaGreatDoor
open Go.RowKit

set_option maxRecDepth 100000 in
set_option maxHeartbeats 12800000 in
theorem ETake1_any (N : Nd) (a : NdA) (M : Ms) (b : MsA) (d : Int) (w : World) {B : Nat} (_hBw : B ≤ w.heap.size) (hN : NdOk w B N a) (hM : MsOk w B M b) (ht : Tab w) (hK : ¬ (toldE N M 3 = true ∧ M.term = N.h.t ∧ ¬ N.role = 2)) :
    Calls Tryz.prog 33 #[nodeV N a, msgV M b, .int .i64 d] w (RetNMs w B (takeN N M d) (takeL N M)) := by
  have hmf : ∀ (fn : Fn) (first cap : Array Value) (w : World), (Instr.makeFunc fn first cap).run Tryz.prog w = .ok (.func fn first cap) w := fun _ _ _ _ => rfl
  obtain ⟨z, hz⟩ : ∃ x, toldE N M 3 = x := ⟨_, rfl⟩
  obtain ⟨la, hla⟩ : ∃ x, lastJ N.h.l = x := ⟨_, rfl⟩
  obtain ⟨zb, hzb⟩ : ∃ x, badR N M.index M.rs = x := ⟨_, rfl⟩
  obtain ⟨zk, hzk⟩ : ∃ x, takeOk N M = x := ⟨_, rfl⟩
  rw [hz] at hK
  replace hK := hid_mk hK
  obtain ⟨G, hG⟩ : ∃ x, takeMg N M = x := ⟨_, rfl⟩
  obtain ⟨N', hN'⟩ : ∃ x, takeN N M d = x := ⟨_, rfl⟩
  obtain ⟨L, hL⟩ : ∃ x, takeL N M = x := ⟨_, rfl⟩
  obtain ⟨TT, hTT⟩ : ∃ x, min (max d 0) 1048576 = x := ⟨_, rfl⟩
  have hr : Hid (z = true → rightN N = true ∧ mayM M = true) := fun e => by
    rw [← hz] at e
    unfold toldE at e
    simp only [Bool.and_eq_true] at e
    exact ⟨e.1, e.2.1⟩
  have hNo1 : Hid (z = false → N' = N ∧ L = []) := fun e => by
    rw [← hN', ← hL]
    exact take_not (by rw [toldC_E, hz, e]; rfl)
  have hNo2 : Hid (N.h.t < M.term → N' = N ∧ L = []) := fun e => by
    rw [← hN', ← hL]
    exact take_not (by rw [toldC_E, show decide (M.term ≤ N.h.t) = false by simpa using e]; simp)
  have hYes : Hid (z = true → M.term ≤ N.h.t →
      (M.term < N.h.t → N' = N ∧ L = [fitM N.id M.fr N.h.t false la]) ∧ (N.h.t ≤ M.term → N.role = 2 → N' = N ∧ L = []) ∧
      (N.h.t ≤ M.term → ¬ N.role = 2 → zb = true → N' = ⟨N.id, N.h, 0, M.fr, TT, N.commit, [], []⟩ ∧ L = [fitM N.id M.fr N.h.t false N.commit]) ∧
      (N.h.t ≤ M.term → ¬ N.role = 2 → zb = false → zk = false → N' = ⟨N.id, N.h, 0, M.fr, TT, N.commit, [], []⟩ ∧ L = [fitM N.id M.fr N.h.t false la]) ∧
      (N.h.t ≤ M.term → ¬ N.role = 2 → zb = false → zk = true → G.f = false → N' = ⟨N.id, N.h, 0, M.fr, TT, N.commit, [], []⟩ ∧ L = [fitM N.id M.fr N.h.t false G.n]) ∧
      (N.h.t ≤ M.term → ¬ N.role = 2 → zb = false → zk = true → G.f = true → N' = ⟨N.id, ⟨N.h.t, N.h.v, G.l, N.h.s, N.h.vs⟩, 0, M.fr, TT, max N.commit (min M.commit G.n), [], []⟩ ∧ L = [fitM N.id M.fr N.h.t true G.n])) := fun e e2 => by
    have hp : toldC N M 3 = true := by rw [toldC_E, hz, e]; simpa using e2
    rw [← hN', ← hL, ← hla, ← hzb, ← hzk, ← hG, ← hTT]
    exact take_say hp
  have hGk : Hid (zk = ((G.e == 0) && rightH ⟨N.h.t, N.h.v, G.l, N.h.s, N.h.vs⟩)) := by rw [← hzk, ← hG]; rfl
  have hGl : G.l.rs.length ≤ N.h.l.rs.length + 200 := by rw [← hG]; exact mg_len _ _ _ _
  rw [hN', hL]
  have hTo := fun (w : World) (h : NdOk w B N a) (h2 : MsOk w B M b) (h3 : Tab w) => ETold_any N a M b 3 w h h2 h3
  rw [hz] at hTo
  have hLA := fun (w : World) (h : NdOk w B N a) (hj : rightJ N.h.l = true) => ELast_any N a w h hj
  have hLF := fun (w : World) (h : NdOk w B ⟨N.id, N.h, 0, M.fr, TT, N.commit, [], []⟩ ⟨a.R, a.V, ⟨none, 0, 0⟩, ⟨none, 0, 0⟩⟩) (hj : rightJ N.h.l = true) => ELast_any ⟨N.id, N.h, 0, M.fr, TT, N.commit, [], []⟩ ⟨a.R, a.V, ⟨none, 0, 0⟩, ⟨none, 0, 0⟩⟩ w h hj
  dsimp only at hLF
  rw [hla] at hLA hLF
  have hMG := fun (w : World) (h0 : B ≤ w.heap.size) (h : NdOk w B N a) (h2 : MsOk w B M b) => Merge_any N.h.l M.index M.lterm M.rs a.R.A a.R.n a.R.c b.R.A b.R.n b.R.c w h0 (by have := hN.rb; omega) (by have := hM.rb; omega) hN.rc hM.rc h.recs h2.recs
  have hMGe : mergeJ N.h.l M.index M.lterm M.rs = G := hG
  rw [hMGe] at hMG
  obtain ⟨zh, hzh⟩ : ∃ x, rightH ⟨N.h.t, N.h.v, G.l, N.h.s, N.h.vs⟩ = x := ⟨_, rfl⟩
  rw [hzh] at hGk
  have hWR := fun (R : Slc) (w : World) (k1 : R.n ≤ 140737488355328) (k3 : Recs w B R.A R.n G.l.rs) (k4 : Ints w B a.V.A a.V.n N.h.vs) (k5 : Tab w) => WRight_any ⟨N.h.t, N.h.v, G.l, N.h.s, N.h.vs⟩ R a.V w k1 (by have := hN.vb; omega) k3 k4 k5
  rw [hzh] at hWR
  have hTA := fun (p : Int) (w : World) (h : NdOk w B N a) => TermAt_any N.h.l p a.R.A a.R.n a.R.c w (by have := hN.rb; omega) h.recs
  have hFok : ∀ {w' : World}, NdOk w' B N a → NdOk w' B ⟨N.id, N.h, 0, M.fr, TT, N.commit, [], []⟩ ⟨a.R, a.V, ⟨none, 0, 0⟩, ⟨none, 0, 0⟩⟩ := fun h =>
    ⟨h.recs, h.rc, h.rb, h.vs, h.vc, h.vb, h.sb, Reads.none_, Nat.le_refl _, by dsimp only; omega, Reads.none_, Nat.le_refl _, by dsimp only; omega⟩
  have hnb := hN.rb
  have hmb := hM.rb
  have hlN := hN.recs.len
  have hlM := hM.recs.len
  replace hz := hid_mk hz
  replace hla := hid_mk hla
  replace hzb := hid_mk hzb
  replace hzh := hid_mk hzh
  replace hTT := hid_mk hTT
  clear hN' hL hzk hG hMGe
  unfold nodeV at hTo hLA hLF ⊢
  unfold msgV at hTo ⊢
  unfold logV at hMG hTA
  unfold hdV at hWR
  dsimp only at hTo hLA hLF hMG hTA hWR ⊢
  obtain ⟨w0, hw0⟩ : ∃ x, (((w.alloc (.cells (ndC N a) 30)).alloc (.cells (msC M b) 32)).alloc (.cells (ndC zeroN nilA) 30)) = x := ⟨_, rfl⟩
  have hB : Hid (Bxs w.heap.size w0 [⟨w.heap.size + 1 + 1, 30, ndC zeroN nilA⟩, ⟨w.heap.size + 1, 32, msC M b⟩, ⟨w.heap.size, 30, ndC N a⟩]) := by
    rw [← hw0]
    exact ((((Bxs.nil w.heap.size w).add_ rfl (by omega) 30 (ndC N a)).add_ (by simp) (by omega) 32 (msC M b)).add_ (by simp) (by omega) 30 (ndC zeroN nilA))
  have q0 : Below w.heap.size w w0 := by rw [← hw0]; go_grown
  have z0 := q0.size
  dsimp only [ndC, msC, zeroN, nilA, zeroM, nilMA] at hw0
  refine calls_of_wpQ Tryz.func33 rfl ?_
  intro Q hQ
  simp only [Tryz.ntmps33, List.size_toArray, List.length_cons, List.length_nil, Nat.reduceAdd, Nat.reduceSub, Array.replicate_succ, Array.replicate_zero, List.push_toArray, List.append_toArray, List.nil_append, List.cons_append]
  go_upto_region 1 with fail
  try rw [hw0]
  clear hw0
  have lX := blk14c (hB.out.at_ 2 rfl)
  have lM := blk11v (hB.out.at_ 1 rfl)
  go_wp2_with fail
  clear lX lM
  refine (hTo _ (hN.to q0) (hM.to q0) (ht.to q0)).mono ?_
  rintro e w1 ⟨rfl, hb1⟩
  have q1 := (after (w := w) hb1 q0).1
  have z1 := q1.size
  replace hB := hid_mk (hB.out.keep hb1)
  clear hb1 q0 z0
  cases z
  case false =>
    have hno := hid_mk (hNo1.out rfl)
    have lX := blk14f (hB.out.at_ 2 rfl)
    have lY := blk14f (hB.out.at_ 0 rfl)
    have lM := blk11f (hB.out.at_ 1 rfl)
    go_wp2
    clear lX lY lM
    have kf := setN_blk (N := N) (a := a) (hB.out.at_ 0 rfl)
    unfold setN set14 at kf
    have rs := blk14c kf
    refine ends_ret hQ (v := .tuple #[.agg (ndC N a), .slice none 0 0]) (by simp [results, Tryz.results33, go_sem, rs, ndC]) rfl ?_
    exact ⟨a, none, 0, 0, [], by rw [hno.out.1]; rfl, by rw [hno.out.1]; exact hN.to (setN_below N a q1 (by omega)), mgs_nil, by rw [hno.out.2]; rfl, Nat.le_refl _, setN_below N a q1 (by omega)⟩
  by_cases g0 : N.h.t < M.term
  case pos =>
    have g0b : decide (N.h.t < M.term) = true := by simpa using g0
    have g0n := hNo2.out g0
    replace g0 := hid_mk g0
    have hno := hid_mk (g0n)
    have lX := blk14f (hB.out.at_ 2 rfl)
    have lY := blk14f (hB.out.at_ 0 rfl)
    have lM := blk11f (hB.out.at_ 1 rfl)
    go_wp2
    clear lX lY lM
    have kf := setN_blk (N := N) (a := a) (hB.out.at_ 0 rfl)
    unfold setN set14 at kf
    have rs := blk14c kf
    refine ends_ret hQ (v := .tuple #[.agg (ndC N a), .slice none 0 0]) (by simp [results, Tryz.results33, go_sem, rs, ndC]) rfl ?_
    exact ⟨a, none, 0, 0, [], by rw [hno.out.1]; rfl, by rw [hno.out.1]; exact hN.to (setN_below N a q1 (by omega)), mgs_nil, by rw [hno.out.2]; rfl, Nat.le_refl _, setN_below N a q1 (by omega)⟩
  have g0b : decide (N.h.t < M.term) = false := by simpa using g0
  replace g0 : M.term ≤ N.h.t := by omega
  obtain ⟨hyA, hyB, hyC, hyD, hyE, hyF⟩ := hYes.out rfl g0
  replace hyA := hid_mk hyA
  replace hyB := hid_mk hyB
  replace hyC := hid_mk hyC
  replace hyD := hid_mk hyD
  replace hyE := hid_mk hyE
  replace hyF := hid_mk hyF
  have hj : Hid (rightJ N.h.l = true) := (right_n (hr.out rfl).1).1
  have hn200 : a.R.n ≤ 200 := by
    have h2 := (right_iff.1 hj.out).2.2.2.2.2.1
    omega
  have hix := may_bounds (hr.out rfl).2
  have hix0 : 0 ≤ M.index ∧ M.index ≤ 1073741824 := hix.2.2.2.2.2.1
  have hcb0 := commit_bounds (hr.out rfl).1
  have hcbs : Hid (0 ≤ N.h.l.base ∧ N.h.l.base ≤ N.commit) := ⟨hcb0.1, hcb0.2.1⟩
  have hRN : Hid (rightN N = true) := (hr.out rfl).1
  clear hYes hNo1 hNo2 hTo hix hcb0 hr
  replace g0 := hid_mk g0
  by_cases g1 : M.term < N.h.t
  case pos =>
    have g1b : decide (M.term < N.h.t) = true := by simpa using g1
    have hfi := hid_mk (hyA.out g1)
    replace g1 := hid_mk g1
    have hfin := hid_mk (hfi.out)
    have lX := blk14f (hB.out.at_ 2 rfl)
    have lY := blk14f (hB.out.at_ 0 rfl)
    have lM := blk11f (hB.out.at_ 1 rfl)
    go_upto_region 5 with fail
    clear lX lY lM
    refine regm (fun w' => AtN w' (w.heap.size) N a) 7 7 [(0, 0), (0, 0), (0, 0), (4, 4), (10, 10), (17, 1), (63, 16)] (by exact (hB.out.at_ 2 rfl).atN) (fun hS0 hR => ?_)
    replace hB := hid_mk hB.out.drew
    have qd : Below w.heap.size w w1.drew := by go_grown
    obtain ⟨wd, hwd⟩ : ∃ x, w1.drew = x := ⟨_, rfl⟩
    rw [hwd] at hS0 hB  qd ⊢
    clear hwd q1 z1
    have zd := qd.size
    refine tkn (i := 0) hR hS0 (h := ?_)
    refine tkn (i := 1) hR hS0 (h := ?_)
    refine tkn (i := 2) hR hS0 (h := ?_)
    refine onem (i := 3) hR (h := fun K hK => ?_)
    go_simp
    refine (hLA _ (hN.to qd) hj.out).mono ?_
    rintro e wL ⟨rfl, hb1⟩
    have qL := (after (w := w) hb1 qd).1
    replace hB := hid_mk (hB.out.keep hb1)
    clear hb1
    have hS1 := (hB.out.at_ 2 rfl).atN
    refine hK.out _ _ (fun _ => hS1) ?_
    clear hK K hS0
    have hS0 := hS1
    clear hS1
    refine onem (i := 4) hR (h := fun K hK => ?_)
    go_simp
    refine (AnsT_any false (la) N.id M.fr N.h.t (w.heap.size) (w.heap.size + 1) _ ((hB.out.at_ 2 rfl).cell 0) ((hB.out.at_ 2 rfl).cell 1) ((hB.out.at_ 1 rfl).cell 1)).mono ?_
    rintro e wS ⟨gS, rfl, kS, hb1⟩
    have qS := (after (w := w) hb1 qL).1
    have hL1 : Hid (Mgs wS B (some ⟨gS, 0, none⟩) 1 [((fitM N.id M.fr N.h.t false la), nilMA)]) := hid_mk (mgs_one (M := (fitM N.id M.fr N.h.t false la)) kS rfl rfl rfl)
    replace hB := hid_mk (hB.out.keep hb1)
    clear hb1 kS
    have hS1 := (hB.out.at_ 2 rfl).atN
    refine hK.out _ _ (fun _ => hS1) ?_
    clear hK K hS0
    have hS0 := hS1
    clear hS1
    have lY := blk14f (hB.out.at_ 0 rfl)
    refine onem (i := 5) hR (h := fun K hK => ?_)
    go_simp
    clear lY
    replace hL1 := hid_mk (mgs_setN hL1.out (hB.out.at_ 0 rfl) (by dsimp only; omega) N a)
    have qz := setN_below N a qS (by omega : w.heap.size ≤ w.heap.size + 1 + 1)
    have hBn := hB.out.setN 0 rfl N a
    obtain ⟨wz, hwz⟩ : ∃ x, setN wS (w.heap.size + 1 + 1) N a = x := ⟨_, rfl⟩
    rw [hwz] at hBn  qz hL1
    replace hB : Hid (Bxs w.heap.size wz [⟨w.heap.size + 1 + 1, 30, ndC N a⟩, ⟨w.heap.size + 1, 32, msC M b⟩, ⟨w.heap.size, 30, ndC N a⟩]) := hid_mk hBn
    clear hBn
    unfold setN set14 at hwz
    rw [hwz]
    clear hwz
    have hS1 := (hB.out.at_ 2 rfl).atN
    refine hK.out _ _ (fun _ => hS1) ?_
    clear hK K hS0
    have hS0 := hS1
    clear hS1
    refine onem (i := 6) hR (h := fun K hK => ?_)
    go_simp
    have hS1 := (hB.out.at_ 2 rfl).atN
    refine hK.out _ _ (fun _ => hS1) ?_
    clear hK K hS0
    have hS0 := hS1
    clear hS1
    refine donem hR (h := ?_)
    try simp only [Act.put]
    have lY := blk14c (hB.out.at_ 0 rfl)
    go_wp2
    refine ends_ret hQ (v := .tuple #[.agg (ndC N a), .slice (some ⟨gS, 0, none⟩) 1 1]) (by simp [results, Tryz.results33, go_sem, lY, ndC]) rfl ?_
    exact ⟨a, some ⟨gS, 0, none⟩, 1, 1, [((fitM N.id M.fr N.h.t false la), nilMA)], by rw [hfin.out.1]; rfl, by (rw [hfin.out.1]; exact hN.to qz), hL1.out, by rw [hfin.out.2]; rfl, Nat.le_refl _, qz⟩
  have g1b : decide (M.term < N.h.t) = false := by simpa using g1
  replace g1 : N.h.t ≤ M.term := by omega
  replace g1 := hid_mk g1
  by_cases g2 : N.role = 2
  case pos =>
    have g2b : (N.role == 2) = true := by simpa using g2
    have hfi := hyB.out g1.out g2
    replace g2 := hid_mk g2
    have hno := hid_mk (hfi)
    have lX := blk14f (hB.out.at_ 2 rfl)
    have lY := blk14f (hB.out.at_ 0 rfl)
    have lM := blk11f (hB.out.at_ 1 rfl)
    go_wp2
    clear lX lY lM
    have kf := setN_blk (N := N) (a := a) (hB.out.at_ 0 rfl)
    unfold setN set14 at kf
    have rs := blk14c kf
    refine ends_ret hQ (v := .tuple #[.agg (ndC N a), .slice none 0 0]) (by simp [results, Tryz.results33, go_sem, rs, ndC]) rfl ?_
    exact ⟨a, none, 0, 0, [], by rw [hno.out.1]; rfl, by rw [hno.out.1]; exact hN.to (setN_below N a q1 (by omega)), mgs_nil, by rw [hno.out.2]; rfl, Nat.le_refl _, setN_below N a q1 (by omega)⟩
  have g2b : (N.role == 2) = false := by simpa using g2
  replace g2 := hid_mk g2
  replace hyC := hid_mk (hyC.out g1.out g2.out)
  replace hyD := hid_mk (hyD.out g1.out g2.out)
  replace hyE := hid_mk (hyE.out g1.out g2.out)
  replace hyF := hid_mk (hyF.out g1.out g2.out)
  clear hyA hyB
  exact absurd ⟨rfl, by have := g0.out; have := g1.out; omega, g2.out⟩ hK.out
set_option maxRecDepth 100000 in
set_option maxHeartbeats 12800000 in
theorem ETake2_any (N : Nd) (a : NdA) (M : Ms) (b : MsA) (d : Int) (w : World) {B : Nat} (hBw : B ≤ w.heap.size) (hN : NdOk w B N a) (hM : MsOk w B M b) (ht : Tab w) (hK1 : toldE N M 3 = true) (hK2 : M.term = N.h.t) (hK3 : ¬ N.role = 2) (hK4 : (badR N M.index M.rs || !(takeOk N M)) = true) :
    Calls Tryz.prog 33 #[nodeV N a, msgV M b, .int .i64 d] w (RetNMs w B (takeN N M d) (takeL N M)) := by
  have hmf : ∀ (fn : Fn) (first cap : Array Value) (w : World), (Instr.makeFunc fn first cap).run Tryz.prog w = .ok (.func fn first cap) w := fun _ _ _ _ => rfl
  obtain ⟨z, hz⟩ : ∃ x, toldE N M 3 = x := ⟨_, rfl⟩
  obtain ⟨la, hla⟩ : ∃ x, lastJ N.h.l = x := ⟨_, rfl⟩
  obtain ⟨zb, hzb⟩ : ∃ x, badR N M.index M.rs = x := ⟨_, rfl⟩
  obtain ⟨zk, hzk⟩ : ∃ x, takeOk N M = x := ⟨_, rfl⟩
  rw [hz] at hK1
  rw [hzb, hzk] at hK4
  replace hK1 := hid_mk hK1
  replace hK2 := hid_mk hK2
  replace hK3 := hid_mk hK3
  replace hK4 := hid_mk hK4
  obtain ⟨G, hG⟩ : ∃ x, takeMg N M = x := ⟨_, rfl⟩
  obtain ⟨N', hN'⟩ : ∃ x, takeN N M d = x := ⟨_, rfl⟩
  obtain ⟨L, hL⟩ : ∃ x, takeL N M = x := ⟨_, rfl⟩
  obtain ⟨TT, hTT⟩ : ∃ x, min (max d 0) 1048576 = x := ⟨_, rfl⟩
  have hr : Hid (z = true → rightN N = true ∧ mayM M = true) := fun e => by
    rw [← hz] at e
    unfold toldE at e
    simp only [Bool.and_eq_true] at e
    exact ⟨e.1, e.2.1⟩
  have hNo1 : Hid (z = false → N' = N ∧ L = []) := fun e => by
    rw [← hN', ← hL]
    exact take_not (by rw [toldC_E, hz, e]; rfl)
  have hNo2 : Hid (N.h.t < M.term → N' = N ∧ L = []) := fun e => by
    rw [← hN', ← hL]
    exact take_not (by rw [toldC_E, show decide (M.term ≤ N.h.t) = false by simpa using e]; simp)
  have hYes : Hid (z = true → M.term ≤ N.h.t →
      (M.term < N.h.t → N' = N ∧ L = [fitM N.id M.fr N.h.t false la]) ∧ (N.h.t ≤ M.term → N.role = 2 → N' = N ∧ L = []) ∧
      (N.h.t ≤ M.term → ¬ N.role = 2 → zb = true → N' = ⟨N.id, N.h, 0, M.fr, TT, N.commit, [], []⟩ ∧ L = [fitM N.id M.fr N.h.t false N.commit]) ∧
      (N.h.t ≤ M.term → ¬ N.role = 2 → zb = false → zk = false → N' = ⟨N.id, N.h, 0, M.fr, TT, N.commit, [], []⟩ ∧ L = [fitM N.id M.fr N.h.t false la]) ∧
      (N.h.t ≤ M.term → ¬ N.role = 2 → zb = false → zk = true → G.f = false → N' = ⟨N.id, N.h, 0, M.fr, TT, N.commit, [], []⟩ ∧ L = [fitM N.id M.fr N.h.t false G.n]) ∧
      (N.h.t ≤ M.term → ¬ N.role = 2 → zb = false → zk = true → G.f = true → N' = ⟨N.id, ⟨N.h.t, N.h.v, G.l, N.h.s, N.h.vs⟩, 0, M.fr, TT, max N.commit (min M.commit G.n), [], []⟩ ∧ L = [fitM N.id M.fr N.h.t true G.n])) := fun e e2 => by
    have hp : toldC N M 3 = true := by rw [toldC_E, hz, e]; simpa using e2
    rw [← hN', ← hL, ← hla, ← hzb, ← hzk, ← hG, ← hTT]
    exact take_say hp
  have hGk : Hid (zk = ((G.e == 0) && rightH ⟨N.h.t, N.h.v, G.l, N.h.s, N.h.vs⟩)) := by rw [← hzk, ← hG]; rfl
  have hGl : G.l.rs.length ≤ N.h.l.rs.length + 200 := by rw [← hG]; exact mg_len _ _ _ _
  rw [hN', hL]
  have hTo := fun (w : World) (h : NdOk w B N a) (h2 : MsOk w B M b) (h3 : Tab w) => ETold_any N a M b 3 w h h2 h3
  rw [hz] at hTo
  have hLA := fun (w : World) (h : NdOk w B N a) (hj : rightJ N.h.l = true) => ELast_any N a w h hj
  have hLF := fun (w : World) (h : NdOk w B ⟨N.id, N.h, 0, M.fr, TT, N.commit, [], []⟩ ⟨a.R, a.V, ⟨none, 0, 0⟩, ⟨none, 0, 0⟩⟩) (hj : rightJ N.h.l = true) => ELast_any ⟨N.id, N.h, 0, M.fr, TT, N.commit, [], []⟩ ⟨a.R, a.V, ⟨none, 0, 0⟩, ⟨none, 0, 0⟩⟩ w h hj
  dsimp only at hLF
  rw [hla] at hLA hLF
  have hMG := fun (w : World) (h0 : B ≤ w.heap.size) (h : NdOk w B N a) (h2 : MsOk w B M b) => Merge_any N.h.l M.index M.lterm M.rs a.R.A a.R.n a.R.c b.R.A b.R.n b.R.c w h0 (by have := hN.rb; omega) (by have := hM.rb; omega) hN.rc hM.rc h.recs h2.recs
  have hMGe : mergeJ N.h.l M.index M.lterm M.rs = G := hG
  rw [hMGe] at hMG
  obtain ⟨zh, hzh⟩ : ∃ x, rightH ⟨N.h.t, N.h.v, G.l, N.h.s, N.h.vs⟩ = x := ⟨_, rfl⟩
  rw [hzh] at hGk
  have hWR := fun (R : Slc) (w : World) (k1 : R.n ≤ 140737488355328) (k3 : Recs w B R.A R.n G.l.rs) (k4 : Ints w B a.V.A a.V.n N.h.vs) (k5 : Tab w) => WRight_any ⟨N.h.t, N.h.v, G.l, N.h.s, N.h.vs⟩ R a.V w k1 (by have := hN.vb; omega) k3 k4 k5
  rw [hzh] at hWR
  have hTA := fun (p : Int) (w : World) (h : NdOk w B N a) => TermAt_any N.h.l p a.R.A a.R.n a.R.c w (by have := hN.rb; omega) h.recs
  have hFok : ∀ {w' : World}, NdOk w' B N a → NdOk w' B ⟨N.id, N.h, 0, M.fr, TT, N.commit, [], []⟩ ⟨a.R, a.V, ⟨none, 0, 0⟩, ⟨none, 0, 0⟩⟩ := fun h =>
    ⟨h.recs, h.rc, h.rb, h.vs, h.vc, h.vb, h.sb, Reads.none_, Nat.le_refl _, by dsimp only; omega, Reads.none_, Nat.le_refl _, by dsimp only; omega⟩
  have hnb := hN.rb
  have hmb := hM.rb
  have hlN := hN.recs.len
  have hlM := hM.recs.len
  replace hz := hid_mk hz
  replace hla := hid_mk hla
  replace hzb := hid_mk hzb
  replace hzh := hid_mk hzh
  replace hTT := hid_mk hTT
  clear hN' hL hzk hG hMGe
  unfold nodeV at hTo hLA hLF ⊢
  unfold msgV at hTo ⊢
  unfold logV at hMG hTA
  unfold hdV at hWR
  dsimp only at hTo hLA hLF hMG hTA hWR ⊢
  obtain ⟨w0, hw0⟩ : ∃ x, (((w.alloc (.cells (ndC N a) 30)).alloc (.cells (msC M b) 32)).alloc (.cells (ndC zeroN nilA) 30)) = x := ⟨_, rfl⟩
  have hB : Hid (Bxs w.heap.size w0 [⟨w.heap.size + 1 + 1, 30, ndC zeroN nilA⟩, ⟨w.heap.size + 1, 32, msC M b⟩, ⟨w.heap.size, 30, ndC N a⟩]) := by
    rw [← hw0]
    exact ((((Bxs.nil w.heap.size w).add_ rfl (by omega) 30 (ndC N a)).add_ (by simp) (by omega) 32 (msC M b)).add_ (by simp) (by omega) 30 (ndC zeroN nilA))
  have q0 : Below w.heap.size w w0 := by rw [← hw0]; go_grown
  have z0 := q0.size
  dsimp only [ndC, msC, zeroN, nilA, zeroM, nilMA] at hw0
  refine calls_of_wpQ Tryz.func33 rfl ?_
  intro Q hQ
  simp only [Tryz.ntmps33, List.size_toArray, List.length_cons, List.length_nil, Nat.reduceAdd, Nat.reduceSub, Array.replicate_succ, Array.replicate_zero, List.push_toArray, List.append_toArray, List.nil_append, List.cons_append]
  go_upto_region 1 with fail
  try rw [hw0]
  clear hw0
  have lX := blk14c (hB.out.at_ 2 rfl)
  have lM := blk11v (hB.out.at_ 1 rfl)
  go_wp2_with fail
  clear lX lM
  refine (hTo _ (hN.to q0) (hM.to q0) (ht.to q0)).mono ?_
  rintro e w1 ⟨rfl, hb1⟩
  have q1 := (after (w := w) hb1 q0).1
  have z1 := q1.size
  replace hB := hid_mk (hB.out.keep hb1)
  clear hb1 q0 z0
  cases z
  case false =>
    exact absurd hK1.out (by decide)
  by_cases g0 : N.h.t < M.term
  case pos =>
    exact absurd g0 (by have := hK2.out; omega)
  have g0b : decide (N.h.t < M.term) = false := by simpa using g0
  replace g0 : M.term ≤ N.h.t := by omega
  obtain ⟨hyA, hyB, hyC, hyD, hyE, hyF⟩ := hYes.out rfl g0
  replace hyA := hid_mk hyA
  replace hyB := hid_mk hyB
  replace hyC := hid_mk hyC
  replace hyD := hid_mk hyD
  replace hyE := hid_mk hyE
  replace hyF := hid_mk hyF
  have hj : Hid (rightJ N.h.l = true) := (right_n (hr.out rfl).1).1
  have hn200 : a.R.n ≤ 200 := by
    have h2 := (right_iff.1 hj.out).2.2.2.2.2.1
    omega
  have hix := may_bounds (hr.out rfl).2
  have hix0 : 0 ≤ M.index ∧ M.index ≤ 1073741824 := hix.2.2.2.2.2.1
  have hcb0 := commit_bounds (hr.out rfl).1
  have hcbs : Hid (0 ≤ N.h.l.base ∧ N.h.l.base ≤ N.commit) := ⟨hcb0.1, hcb0.2.1⟩
  have hRN : Hid (rightN N = true) := (hr.out rfl).1
  clear hYes hNo1 hNo2 hTo hix hcb0 hr
  replace g0 := hid_mk g0
  by_cases g1 : M.term < N.h.t
  case pos =>
    exact absurd hK2.out (by omega)
  have g1b : decide (M.term < N.h.t) = false := by simpa using g1
  replace g1 : N.h.t ≤ M.term := by omega
  replace g1 := hid_mk g1
  by_cases g2 : N.role = 2
  case pos =>
    exact absurd g2 hK3.out
  have g2b : (N.role == 2) = false := by simpa using g2
  replace g2 := hid_mk g2
  replace hyC := hid_mk (hyC.out g1.out g2.out)
  replace hyD := hid_mk (hyD.out g1.out g2.out)
  replace hyE := hid_mk (hyE.out g1.out g2.out)
  replace hyF := hid_mk (hyF.out g1.out g2.out)
  clear hyA hyB
  have lX := blk14f (hB.out.at_ 2 rfl)
  have lM := blk11f (hB.out.at_ 1 rfl)
  go_upto_region 8 with fail
  clear lX lM
  refine regm (fun w' => w'.cell? ⟨w.heap.size + 1, 1, none⟩ = some (.int .i64 M.fr)) 15 15 [(0, 0), (1, 1), (0, 0), (4, 4), (8, 8), (0, 0), (32, 32), (96, 0), (224, 128), (480, 0), (992, 512), (2019, 0), (4067, 2050), (8191, 0), (16383, 8208)] (by exact (hB.out.at_ 1 rfl).cell 1) (fun hS0 hR => ?_)
  replace hB := hid_mk hB.out.drew
  have qd : Below w.heap.size w w1.drew := by go_grown
  obtain ⟨wd, hwd⟩ : ∃ x, w1.drew = x := ⟨_, rfl⟩
  rw [hwd] at hS0 hB  qd ⊢
  clear hwd q1 z1
  have zd := qd.size
  refine tkn (i := 0) hR hS0 (h := ?_)
  refine tkn (i := 1) hR hS0 (h := ?_)
  refine tkn (i := 2) hR hS0 (h := ?_)
  refine tkn (i := 3) hR hS0 (h := ?_)
  refine tkn (i := 4) hR hS0 (h := ?_)
  simp only [Act.put]
  refine tkn (i := 5) hR hS0 (h := ?_)
  have lX := blk14f (hB.out.at_ 2 rfl)
  refine onem (i := 6) hR (h := fun K hK => ?_)
  go_simp
  clear lX
  have hBn := hB.out.set 2 rfl 8 (.int .i64 0)
  have qf0 := qd.setCell (p := ⟨w.heap.size, 8, none⟩) (by dsimp only; omega) (.int .i64 0)
  obtain ⟨wf0, hwz⟩ : ∃ x, wd.setCell ⟨w.heap.size, 8, none⟩ (.int .i64 0) = x := ⟨_, rfl⟩
  rw [hwz] at hBn qf0 ⊢
  replace hB : Hid (Bxs w.heap.size wf0 [⟨w.heap.size + 1 + 1, 30, ndC zeroN nilA⟩, ⟨w.heap.size + 1, 32, msC M b⟩, ⟨w.heap.size, 30, ndC ⟨N.id, N.h, 0, N.lead, N.timer, N.commit, N.got, N.ps⟩ a⟩]) := hid_mk hBn
  clear hBn hwz qd zd
  have hS1 := (hB.out.at_ 1 rfl).cell 1
  refine hK.out _ _ (fun _ => hS1) ?_
  clear hK K hS0
  have hS0 := hS1
  clear hS1
  refine tkn (i := 7) hR hS0 (h := ?_)
  have lX := blk14f (hB.out.at_ 2 rfl)
  refine onem (i := 8) hR (h := fun K hK => ?_)
  go_simp
  clear lX
  have hBn := hB.out.set 2 rfl 12 (.slice none 0 0)
  have qf1 := qf0.setCell (p := ⟨w.heap.size, 12, none⟩) (by dsimp only; omega) (.slice none 0 0)
  obtain ⟨wf1, hwz⟩ : ∃ x, wf0.setCell ⟨w.heap.size, 12, none⟩ (.slice none 0 0) = x := ⟨_, rfl⟩
  rw [hwz] at hBn qf1 ⊢
  replace hB : Hid (Bxs w.heap.size wf1 [⟨w.heap.size + 1 + 1, 30, ndC zeroN nilA⟩, ⟨w.heap.size + 1, 32, msC M b⟩, ⟨w.heap.size, 30, ndC ⟨N.id, N.h, 0, N.lead, N.timer, N.commit, [], N.ps⟩ ⟨a.R, a.V, ⟨none, 0, 0⟩, a.P⟩⟩]) := hid_mk hBn
  clear hBn hwz qf0
  have hS1 := (hB.out.at_ 1 rfl).cell 1
  refine hK.out _ _ (fun _ => hS1) ?_
  clear hK K hS0
  have hS0 := hS1
  clear hS1
  refine tkn (i := 9) hR hS0 (h := ?_)
  have lX := blk14f (hB.out.at_ 2 rfl)
  refine onem (i := 10) hR (h := fun K hK => ?_)
  go_simp
  clear lX
  have hBn := hB.out.set 2 rfl 13 (.slice none 0 0)
  have qf2 := qf1.setCell (p := ⟨w.heap.size, 13, none⟩) (by dsimp only; omega) (.slice none 0 0)
  obtain ⟨wf2, hwz⟩ : ∃ x, wf1.setCell ⟨w.heap.size, 13, none⟩ (.slice none 0 0) = x := ⟨_, rfl⟩
  rw [hwz] at hBn qf2 ⊢
  replace hB : Hid (Bxs w.heap.size wf2 [⟨w.heap.size + 1 + 1, 30, ndC zeroN nilA⟩, ⟨w.heap.size + 1, 32, msC M b⟩, ⟨w.heap.size, 30, ndC ⟨N.id, N.h, 0, N.lead, N.timer, N.commit, [], []⟩ ⟨a.R, a.V, ⟨none, 0, 0⟩, ⟨none, 0, 0⟩⟩⟩]) := hid_mk hBn
  clear hBn hwz qf1
  have hS1 := (hB.out.at_ 1 rfl).cell 1
  refine hK.out _ _ (fun _ => hS1) ?_
  clear hK K hS0
  have hS0 := hS1
  clear hS1
  refine tkn (i := 11) hR hS0 (h := ?_)
  have lX := blk14f (hB.out.at_ 2 rfl)
  refine onem (i := 12) hR (h := fun K hK => ?_)
  go_simp
  clear lX
  have hBn := hB.out.set 2 rfl 9 (.int .i64 M.fr)
  have qf3 := qf2.setCell (p := ⟨w.heap.size, 9, none⟩) (by dsimp only; omega) (.int .i64 M.fr)
  obtain ⟨wf3, hwz⟩ : ∃ x, wf2.setCell ⟨w.heap.size, 9, none⟩ (.int .i64 M.fr) = x := ⟨_, rfl⟩
  rw [hwz] at hBn qf3 ⊢
  replace hB : Hid (Bxs w.heap.size wf3 [⟨w.heap.size + 1 + 1, 30, ndC zeroN nilA⟩, ⟨w.heap.size + 1, 32, msC M b⟩, ⟨w.heap.size, 30, ndC ⟨N.id, N.h, 0, M.fr, N.timer, N.commit, [], []⟩ ⟨a.R, a.V, ⟨none, 0, 0⟩, ⟨none, 0, 0⟩⟩⟩]) := hid_mk hBn
  clear hBn hwz qf2
  have hS1 := (hB.out.at_ 1 rfl).cell 1
  refine hK.out _ _ (fun _ => hS1) ?_
  clear hK K hS0
  have hS0 := hS1
  clear hS1
  refine tkn (i := 13) hR hS0 (h := ?_)
  simp only [Act.put]
  have lX := blk14f (hB.out.at_ 2 rfl)
  refine onem (i := 14) hR (h := fun K hK => ?_)
  go_simp
  clear lX
  have hBn := hB.out.set 2 rfl 10 (.int .i64 (min (max d 0) 1048576))
  have qf4 := qf3.setCell (p := ⟨w.heap.size, 10, none⟩) (by dsimp only; omega) (.int .i64 (min (max d 0) 1048576))
  obtain ⟨wf4, hwz⟩ : ∃ x, wf3.setCell ⟨w.heap.size, 10, none⟩ (.int .i64 (min (max d 0) 1048576)) = x := ⟨_, rfl⟩
  rw [hwz] at hBn qf4 ⊢
  replace hB : Hid (Bxs w.heap.size wf4 [⟨w.heap.size + 1 + 1, 30, ndC zeroN nilA⟩, ⟨w.heap.size + 1, 32, msC M b⟩, ⟨w.heap.size, 30, ndC ⟨N.id, N.h, 0, M.fr, min (max d 0) 1048576, N.commit, [], []⟩ ⟨a.R, a.V, ⟨none, 0, 0⟩, ⟨none, 0, 0⟩⟩⟩]) := hid_mk hBn
  clear hBn hwz qf3
  have hS1 := (hB.out.at_ 1 rfl).cell 1
  refine hK.out _ _ (fun _ => hS1) ?_
  clear hK K hS0
  have hS0 := hS1
  clear hS1
  refine donem hR (h := ?_)
  try simp only [Act.put]
  rw [hTT.out] at hB
  have zf := qf4.size
  obtain ⟨w10, hwc⟩ : ∃ x, x = wf4 := ⟨wf4, rfl⟩
  subst hwc
  have q10 := qf4
  have z10 := q10.size
  clear qf4 zf
  have lX := blk14f (hB.out.at_ 2 rfl)
  have lM := blk11f (hB.out.at_ 1 rfl)
  go_wp2
  clear lX lM
  go_loopw [61] (fun iv wr => ∃ k : Nat, iv = .int .i64 k ∧ k ≤ b.R.n ∧ Below w.heap.size w wr ∧ Hid (Bxs w.heap.size wr [⟨w.heap.size + 1 + 1, 30, ndC zeroN nilA⟩, ⟨w.heap.size + 1, 32, msC M b⟩, ⟨w.heap.size, 30, ndC ⟨N.id, N.h, 0, M.fr, TT, N.commit, [], []⟩ ⟨a.R, a.V, ⟨none, 0, 0⟩, ⟨none, 0, 0⟩⟩⟩]) ∧ Hid (badR N (M.index + k) (M.rs.drop k) = zb)) (fun iv _ => b.R.n - (intOf iv).toNat)
  case atStart => exact ⟨0, rfl, Nat.zero_le _, q10, hB, by rw [Hid, ← hzb.out]; simp⟩
  case round =>
    clear hB q10 z10
    obtain ⟨k, rfl, hk, qr, hB, hbad⟩ := hrel
    have zr := qr.size
    by_cases hkn : k < b.R.n
    · skip
      obtain ⟨bv, ov, r, hA, hbv, hdx, c0, c1, c2⟩ := (hM.recs.to qr).at_ hkn
      have x1 : IntKind.i64.wrap (M.index + 1) = M.index + 1 := IntWalk.i64_in _ (by omega)
      have x2 : IntKind.i64.wrap (M.index + 1 + k) = M.index + 1 + k := IntWalk.i64_in _ (by omega)
      have hstep : Hid ((if badC N (M.index + k + 1) r then true else badR N (M.index + k + 1) (M.rs.drop (k + 1))) = zb) := by
        have h := hbad.out
        rw [hdx, bad_step hRN.out] at h
        exact h
      clear hbad
      replace hdx := hid_mk hdx
      have lX := blk14c (hB.out.at_ 2 rfl)
      have lM := blk11v (hB.out.at_ 1 rfl)
      obtain ⟨gR, hgR⟩ : ∃ g, wr.heap.size = g := ⟨_, rfl⟩
      have lgR : w.heap.size ≤ gR := by rw [← hgR]; exact qr.size
      replace hB := hid_mk (hB.out.add_ hgR lgR 51 (#[.int .i64 r.t, .int .i64 r.k, .string r.d]))
      have q11 := qr.alloc qr.size (.cells (#[.int .i64 r.t, .int .i64 r.k, .string r.d]) 51)
      obtain ⟨w11, hw11⟩ : ∃ x, wr.alloc (.cells (#[.int .i64 r.t, .int .i64 r.k, .string r.d]) 51) = x := ⟨_, rfl⟩
      rw [hw11] at hB  q11
      try unfold ndC at hw11
      replace hw11 := hid_mk hw11
      replace hgR := hid_mk hgR
      go_upto_region 13 with fail
      try rw [hw11.out]
      try rw [hgR.out]
      clear lX lM hw11 hgR qr zr
      have z11 := q11.size
      clear c0 c1 c2 x1 x2
      have lX := blk14c (hB.out.at_ 3 rfl)
      go_wp2_with fail
      clear lX
      refine (hTA (M.index + 1 + k) _ (hN.to q11)).mono ?_
      rintro e w12 ⟨rfl, hb1⟩
      have q12 := (after (w := w) hb1 q11).1
      have z12 := q12.size
      replace hB := hid_mk (hB.out.keep hb1)
      clear hb1 q11 z11
      have hstep2 : Hid ((if ((termAtJ N.h.l (M.index + 1 + k)).isSome && (decide (N.h.l.base < M.index + 1 + k) && (decide (M.index + 1 + k ≤ N.commit) && !((termAtJ N.h.l (M.index + 1 + k)).getD 0 == r.t)))) then true else badR N (M.index + k + 1) (M.rs.drop (k + 1))) = zb) := by
        have h := hstep.out
        rw [show M.index + (k : Int) + 1 = M.index + 1 + k from by omega] at h ⊢
        exact h
      clear hstep
      obtain ⟨ti, hti⟩ : ∃ x, (termAtJ N.h.l (M.index + 1 + k)).isSome = x := ⟨_, rfl⟩
      obtain ⟨tv, htv⟩ : ∃ x, (termAtJ N.h.l (M.index + 1 + k)).getD 0 = x := ⟨_, rfl⟩
      rw [hti, htv] at hstep2
      try rw [hti, htv]
      replace hti := hid_mk hti
      replace htv := hid_mk htv
      obtain ⟨at1, hat⟩ : ∃ x, M.index + 1 + (k : Int) = x := ⟨_, rfl⟩
      rw [hat] at hstep2
      try rw [hat]
      replace hat := hid_mk hat
      have lX := blk14f (hB.out.at_ 3 rfl)
      have lR := blk3f (hB.out.at_ 0 rfl)
      go_upto_region 14 with fail
      clear lX lR
      go_cut [99] from 79 to 99 (fun p99 wx => ∃ g : Bool, p99 = .bool g ∧ Below w.heap.size w wx ∧ Hid (Bxs w.heap.size wx [⟨gR, 51, #[.int .i64 r.t, .int .i64 r.k, .string r.d]⟩, ⟨w.heap.size + 1 + 1, 30, ndC zeroN nilA⟩, ⟨w.heap.size + 1, 32, msC M b⟩, ⟨w.heap.size, 30, ndC ⟨N.id, N.h, 0, M.fr, TT, N.commit, [], []⟩ ⟨a.R, a.V, ⟨none, 0, 0⟩, ⟨none, 0, 0⟩⟩⟩]) ∧ Hid ((if g then true else badR N (M.index + k + 1) (M.rs.drop (k + 1))) = zb))
      case first =>
        cases ti
        case false =>
          have lX := blk14f (hB.out.at_ 3 rfl)
          have lR := blk3f (hB.out.at_ 0 rfl)
          go_wp2_with fail
          go_meet
          clear lX lR
          exact ⟨false, rfl, q12, hB, hstep2⟩
        case true =>
          by_cases k1 : N.h.l.base < at1
          case neg =>
            have k1b : decide (N.h.l.base < at1) = false := by simpa using k1
            replace k1 := hid_mk k1
            rw [k1b] at hstep2
            have lX := blk14f (hB.out.at_ 3 rfl)
            have lR := blk3f (hB.out.at_ 0 rfl)
            go_wp2_with fail
            go_meet
            clear lX lR
            exact ⟨false, rfl, q12, hB, hstep2⟩
          have k1b : decide (N.h.l.base < at1) = true := by simpa using k1
          replace k1 := hid_mk k1
          rw [k1b] at hstep2
          by_cases k2 : at1 ≤ N.commit
          case neg =>
            have k2b : decide (at1 ≤ N.commit) = false := by simpa using k2
            replace k2 := hid_mk k2
            rw [k2b] at hstep2
            have lX := blk14f (hB.out.at_ 3 rfl)
            have lR := blk3f (hB.out.at_ 0 rfl)
            go_wp2_with fail
            go_meet
            clear lX lR
            exact ⟨false, rfl, q12, hB, hstep2⟩
          have k2b : decide (at1 ≤ N.commit) = true := by simpa using k2
          replace k2 := hid_mk k2
          rw [k2b] at hstep2
          by_cases k3 : tv = r.t
          case pos =>
            have k3b : (tv == r.t) = true := by simpa using k3
            have k3c : (tv != r.t) = false := by simpa using k3
            replace k3 := hid_mk k3
            rw [k3b] at hstep2
            have lX := blk14f (hB.out.at_ 3 rfl)
            have lR := blk3f (hB.out.at_ 0 rfl)
            go_wp2_with fail
            go_meet
            clear lX lR
            exact ⟨false, rfl, q12, hB, hstep2⟩
          have k3b : (tv == r.t) = false := by simpa using k3
          have k3c : (tv != r.t) = true := by simpa using k3
          replace k3 := hid_mk k3
          rw [k3b] at hstep2
          have lX := blk14f (hB.out.at_ 3 rfl)
          have lR := blk3f (hB.out.at_ 0 rfl)
          go_wp2_with fail
          go_meet
          clear lX lR
          exact ⟨true, rfl, q12, hB, hstep2⟩
      case rest =>
        clear hB q12 z12 hstep2 hti htv hat
        obtain ⟨g, rfl, q20, hB, hg⟩ := hcut
        obtain ⟨w20, hwc⟩ : ∃ x, x = wc := ⟨wc, rfl⟩
        subst hwc
        have z20 := q20.size
        cases g
        case true =>
          have hfi := hid_mk (hyC.out hg.out.symm)
          have hfin := hid_mk (hfi.out)
          have lX := blk14f (hB.out.at_ 3 rfl)
          have lY := blk14f (hB.out.at_ 1 rfl)
          have lM := blk11f (hB.out.at_ 2 rfl)
          go_upto_region 15 with fail
          clear lX lY lM
          refine regm (fun w' => AtN w' (w.heap.size) ⟨N.id, N.h, 0, M.fr, TT, N.commit, [], []⟩ ⟨a.R, a.V, ⟨none, 0, 0⟩, ⟨none, 0, 0⟩⟩) 7 7 [(0, 0), (0, 0), (0, 0), (4, 4), (10, 10), (17, 1), (63, 16)] (by exact (hB.out.at_ 3 rfl).atN) (fun hS0 hR => ?_)
          replace hB := hid_mk hB.out.drew
          have qd : Below w.heap.size w w20.drew := by go_grown
          obtain ⟨wd, hwd⟩ : ∃ x, w20.drew = x := ⟨_, rfl⟩
          rw [hwd] at hS0 hB  qd ⊢
          clear hwd q20 z20
          have zd := qd.size
          refine tkn (i := 0) hR hS0 (h := ?_)
          refine tkn (i := 1) hR hS0 (h := ?_)
          refine tkn (i := 2) hR hS0 (h := ?_)
          refine tkn (i := 3) hR hS0 (h := ?_)
          refine onem (i := 4) hR (h := fun K hK => ?_)
          go_simp
          refine (AnsT_any false (N.commit) N.id M.fr N.h.t (w.heap.size) (w.heap.size + 1) _ ((hB.out.at_ 3 rfl).cell 0) ((hB.out.at_ 3 rfl).cell 1) ((hB.out.at_ 2 rfl).cell 1)).mono ?_
          rintro e wS ⟨gS, rfl, kS, hb1⟩
          have qS := (after (w := w) hb1 qd).1
          have hL1 : Hid (Mgs wS B (some ⟨gS, 0, none⟩) 1 [((fitM N.id M.fr N.h.t false N.commit), nilMA)]) := hid_mk (mgs_one (M := (fitM N.id M.fr N.h.t false N.commit)) kS rfl rfl rfl)
          replace hB := hid_mk (hB.out.keep hb1)
          clear hb1 kS
          have hS1 := (hB.out.at_ 3 rfl).atN
          refine hK.out _ _ (fun _ => hS1) ?_
          clear hK K hS0
          have hS0 := hS1
          clear hS1
          have lY := blk14f (hB.out.at_ 1 rfl)
          refine onem (i := 5) hR (h := fun K hK => ?_)
          go_simp
          clear lY
          replace hL1 := hid_mk (mgs_setN hL1.out (hB.out.at_ 1 rfl) (by dsimp only; omega) ⟨N.id, N.h, 0, M.fr, TT, N.commit, [], []⟩ ⟨a.R, a.V, ⟨none, 0, 0⟩, ⟨none, 0, 0⟩⟩)
          have qz := setN_below ⟨N.id, N.h, 0, M.fr, TT, N.commit, [], []⟩ ⟨a.R, a.V, ⟨none, 0, 0⟩, ⟨none, 0, 0⟩⟩ qS (by omega : w.heap.size ≤ w.heap.size + 1 + 1)
          have hBn := hB.out.setN 1 rfl ⟨N.id, N.h, 0, M.fr, TT, N.commit, [], []⟩ ⟨a.R, a.V, ⟨none, 0, 0⟩, ⟨none, 0, 0⟩⟩
          obtain ⟨wz, hwz⟩ : ∃ x, setN wS (w.heap.size + 1 + 1) ⟨N.id, N.h, 0, M.fr, TT, N.commit, [], []⟩ ⟨a.R, a.V, ⟨none, 0, 0⟩, ⟨none, 0, 0⟩⟩ = x := ⟨_, rfl⟩
          rw [hwz] at hBn  qz hL1
          replace hB : Hid (Bxs w.heap.size wz [⟨gR, 51, #[.int .i64 r.t, .int .i64 r.k, .string r.d]⟩, ⟨w.heap.size + 1 + 1, 30, ndC ⟨N.id, N.h, 0, M.fr, TT, N.commit, [], []⟩ ⟨a.R, a.V, ⟨none, 0, 0⟩, ⟨none, 0, 0⟩⟩⟩, ⟨w.heap.size + 1, 32, msC M b⟩, ⟨w.heap.size, 30, ndC ⟨N.id, N.h, 0, M.fr, TT, N.commit, [], []⟩ ⟨a.R, a.V, ⟨none, 0, 0⟩, ⟨none, 0, 0⟩⟩⟩]) := hid_mk hBn
          clear hBn
          unfold setN set14 at hwz
          rw [hwz]
          clear hwz
          have hS1 := (hB.out.at_ 3 rfl).atN
          refine hK.out _ _ (fun _ => hS1) ?_
          clear hK K hS0
          have hS0 := hS1
          clear hS1
          refine onem (i := 6) hR (h := fun K hK => ?_)
          go_simp
          have hS1 := (hB.out.at_ 3 rfl).atN
          refine hK.out _ _ (fun _ => hS1) ?_
          clear hK K hS0
          have hS0 := hS1
          clear hS1
          refine donem hR (h := ?_)
          try simp only [Act.put]
          have lY := blk14c (hB.out.at_ 1 rfl)
          go_wp2
          refine ends_ret hQ (v := .tuple #[.agg (ndC ⟨N.id, N.h, 0, M.fr, TT, N.commit, [], []⟩ ⟨a.R, a.V, ⟨none, 0, 0⟩, ⟨none, 0, 0⟩⟩), .slice (some ⟨gS, 0, none⟩) 1 1]) (by simp [results, Tryz.results33, go_sem, lY, ndC]) rfl ?_
          exact ⟨⟨a.R, a.V, ⟨none, 0, 0⟩, ⟨none, 0, 0⟩⟩, some ⟨gS, 0, none⟩, 1, 1, [((fitM N.id M.fr N.h.t false N.commit), nilMA)], by rw [hfin.out.1]; rfl, by (rw [hfin.out.1]; exact hFok (hN.to qz)), hL1.out, by rw [hfin.out.2]; rfl, Nat.le_refl _, qz⟩
        have lX := blk14f (hB.out.at_ 3 rfl)
        have lM := blk11f (hB.out.at_ 2 rfl)
        go_wp2
        clear lX lM
        go_roundw
        case rel =>
          (repeat apply Exists.intro)
          have hbn : Hid (badR N (M.index + ((k + 1 : Nat) : Int)) (M.rs.drop (k + 1)) = zb) := by rw [Hid, show M.index + ((k + 1 : Nat) : Int) = M.index + k + 1 from by omega]; exact hg.out
          first | refine ⟨⟨k + 1, rfl, by omega, q20, hB.out.tail, hbn⟩, ?_⟩ | refine ⟨⟨k + 1, rfl, by omega, hB.out.tail, hbn⟩, ?_⟩
          repeat' (first | rfl | go_num | apply And.intro)
        case measure => simp [intOf]; omega
    · skip
      have hkr : k = b.R.n := by omega
      have hzb2 : zb = false := by
        have h := hbad.out
        rw [List.drop_eq_nil_of_le (by omega)] at h
        exact h.symm
      clear hbad
      replace hyD := hid_mk (hyD.out hzb2)
      replace hyE := hid_mk (hyE.out hzb2)
      replace hyF := hid_mk (hyF.out hzb2)
      replace hzb2 := hid_mk hzb2
      clear hyC
      have lX := blk14c (hB.out.at_ 2 rfl)
      have lM := blk11v (hB.out.at_ 1 rfl)
      go_wp2_with fail
      clear lX lM
      refine (hMG _ (by omega) (hN.to qr) (hM.to qr)).mono ?_
      rintro e w11 ⟨LA, ln, Lc, rfl, hLr, hlc, hlm, hb1⟩
      have q11 := (after (w := w) hb1 qr).1
      have z11 := q11.size
      replace hB := hid_mk (hB.out.keep hb1)
      clear hb1 qr zr
      unfold logV
      dsimp only at hLr ⊢
      have hln : ln ≤ 400 := by have := hLr.len; omega
      replace hLr := hid_mk hLr
      have lX := blk14c (hB.out.at_ 2 rfl)
      have lM := blk11v (hB.out.at_ 1 rfl)
      obtain ⟨gL, hgL⟩ : ∃ g, w11.heap.size = g := ⟨_, rfl⟩
      have lgL : w.heap.size ≤ gL := by rw [← hgL]; exact q11.size
      replace hB := hid_mk (hB.out.add_ hgL lgL 24 (#[.int .i64 G.l.base, .int .i64 G.l.bt, .slice LA ln Lc]))
      replace hLr := hid_mk (hLr.out.to ((Below.refl _ w11).alloc (Nat.le_refl _) (.cells (#[.int .i64 G.l.base, .int .i64 G.l.bt, .slice LA ln Lc]) 24)))
      have q12 := q11.alloc q11.size (.cells (#[.int .i64 G.l.base, .int .i64 G.l.bt, .slice LA ln Lc]) 24)
      obtain ⟨w12, hw12⟩ : ∃ x, w11.alloc (.cells (#[.int .i64 G.l.base, .int .i64 G.l.bt, .slice LA ln Lc]) 24) = x := ⟨_, rfl⟩
      rw [hw12] at hB hLr q12
      try unfold ndC at hw12
      replace hw12 := hid_mk hw12
      replace hgL := hid_mk hgL
      go_upto_region 18 with fail
      try rw [hw12.out]
      try rw [hgL.out]
      clear lX lM hw12 hgL q11 z11
      have z12 := q12.size
      have lX := blk14c (hB.out.at_ 3 rfl)
      have lL := blk3 (hB.out.at_ 0 rfl)
      obtain ⟨gO, hgO⟩ : ∃ g, w12.heap.size = g := ⟨_, rfl⟩
      have lgO : w.heap.size ≤ gO := by rw [← hgO]; exact q12.size
      replace hB := hid_mk (hB.out.add_ hgO lgO 30 (ndC ⟨N.id, N.h, 0, M.fr, TT, N.commit, [], []⟩ ⟨a.R, a.V, ⟨none, 0, 0⟩, ⟨none, 0, 0⟩⟩))
      replace hLr := hid_mk (hLr.out.to ((Below.refl _ w12).alloc (Nat.le_refl _) (.cells (ndC ⟨N.id, N.h, 0, M.fr, TT, N.commit, [], []⟩ ⟨a.R, a.V, ⟨none, 0, 0⟩, ⟨none, 0, 0⟩⟩) 30)))
      have q13 := q12.alloc q12.size (.cells (ndC ⟨N.id, N.h, 0, M.fr, TT, N.commit, [], []⟩ ⟨a.R, a.V, ⟨none, 0, 0⟩, ⟨none, 0, 0⟩⟩) 30)
      obtain ⟨w13, hw13⟩ : ∃ x, w12.alloc (.cells (ndC ⟨N.id, N.h, 0, M.fr, TT, N.commit, [], []⟩ ⟨a.R, a.V, ⟨none, 0, 0⟩, ⟨none, 0, 0⟩⟩) 30) = x := ⟨_, rfl⟩
      rw [hw13] at hB hLr q13
      try unfold ndC at hw13
      replace hw13 := hid_mk hw13
      replace hgO := hid_mk hgO
      go_upto_region 19 with fail
      try rw [hw13.out]
      try rw [hgO.out]
      clear lX lL hw13 hgO q12 z12
      have z13 := q13.size
      have lO := blk14f (hB.out.at_ 0 rfl)
      have lL := blk3f (hB.out.at_ 1 rfl)
      go_upto_region 20 with fail
      clear lO lL
      have hBn : Bxs w.heap.size (((w13.setCell ⟨gO, 3, none⟩ (.int .i64 G.l.base)).setCell ⟨gO, 4, none⟩ (.int .i64 G.l.bt)).setCell ⟨gO, 5, none⟩ (.slice LA ln Lc)) [⟨gO, 30, ndC ⟨N.id, ⟨N.h.t, N.h.v, G.l, N.h.s, N.h.vs⟩, 0, M.fr, TT, N.commit, [], []⟩ ⟨⟨LA, ln, Lc⟩, a.V, ⟨none, 0, 0⟩, ⟨none, 0, 0⟩⟩⟩, ⟨gL, 24, #[.int .i64 G.l.base, .int .i64 G.l.bt, .slice LA ln Lc]⟩, ⟨w.heap.size + 1 + 1, 30, ndC zeroN nilA⟩, ⟨w.heap.size + 1, 32, msC M b⟩, ⟨w.heap.size, 30, ndC ⟨N.id, N.h, 0, M.fr, TT, N.commit, [], []⟩ ⟨a.R, a.V, ⟨none, 0, 0⟩, ⟨none, 0, 0⟩⟩⟩] := (((hB.out.set 0 rfl 3 (.int .i64 G.l.base)).set 0 rfl 4 (.int .i64 G.l.bt)).set 0 rfl 5 (.slice LA ln Lc))
      have q14 := (((q13.setCell (p := ⟨gO, 3, none⟩) (by dsimp only; omega) (.int .i64 G.l.base)).setCell (p := ⟨gO, 4, none⟩) (by dsimp only; omega) (.int .i64 G.l.bt)).setCell (p := ⟨gO, 5, none⟩) (by dsimp only; omega) (.slice LA ln Lc))
      have hLrn : Recs (((w13.setCell ⟨gO, 3, none⟩ (.int .i64 G.l.base)).setCell ⟨gO, 4, none⟩ (.int .i64 G.l.bt)).setCell ⟨gO, 5, none⟩ (.slice LA ln Lc)) B LA ln G.l.rs := (Reads.far (Reads.far (Reads.far hLr.out (hB.out.at_ 0 rfl) (by dsimp only; omega) (by dsimp only; decide) 3 (.int .i64 G.l.base)) ((hB.out.set 0 rfl 3 (.int .i64 G.l.base)).at_ 0 rfl) (by dsimp only; omega) (by dsimp only; decide) 4 (.int .i64 G.l.bt)) (((hB.out.set 0 rfl 3 (.int .i64 G.l.base)).set 0 rfl 4 (.int .i64 G.l.bt)).at_ 0 rfl) (by dsimp only; omega) (by dsimp only; decide) 5 (.slice LA ln Lc))
      obtain ⟨w14, hwz⟩ : ∃ x, (((w13.setCell ⟨gO, 3, none⟩ (.int .i64 G.l.base)).setCell ⟨gO, 4, none⟩ (.int .i64 G.l.bt)).setCell ⟨gO, 5, none⟩ (.slice LA ln Lc)) = x := ⟨_, rfl⟩
      rw [hwz] at hBn q14 hLrn
      try rw [hwz]
      clear hwz
      replace hB := hid_mk hBn
      clear hBn
      replace hLr := hid_mk hLrn
      clear hLrn
      have z14 := q14.size
      clear q13 z13
      go_cut [125] from 126 (fun p125 wx => ∃ g : Bool, p125 = .bool g ∧ Below w.heap.size w wx ∧ Hid (Bxs w.heap.size wx [⟨gO, 30, ndC ⟨N.id, ⟨N.h.t, N.h.v, G.l, N.h.s, N.h.vs⟩, 0, M.fr, TT, N.commit, [], []⟩ ⟨⟨LA, ln, Lc⟩, a.V, ⟨none, 0, 0⟩, ⟨none, 0, 0⟩⟩⟩, ⟨gL, 24, #[.int .i64 G.l.base, .int .i64 G.l.bt, .slice LA ln Lc]⟩, ⟨w.heap.size + 1 + 1, 30, ndC zeroN nilA⟩, ⟨w.heap.size + 1, 32, msC M b⟩, ⟨w.heap.size, 30, ndC ⟨N.id, N.h, 0, M.fr, TT, N.commit, [], []⟩ ⟨a.R, a.V, ⟨none, 0, 0⟩, ⟨none, 0, 0⟩⟩⟩]) ∧ Hid (Recs wx B LA ln G.l.rs) ∧ Hid (zk = !g))
      case first =>
        by_cases ge : G.e = 0
        case neg =>
          have geb : (G.e == 0) = false := by simpa using ge
          have gec : (G.e != 0) = true := by simpa using ge
          replace ge := hid_mk ge
          rw [geb] at hGk
          have lO := blk14f (hB.out.at_ 0 rfl)
          go_wp2_with fail
          go_meet
          clear lO
          exact ⟨true, rfl, q14, hB, hLr, hGk⟩
        have geb : (G.e == 0) = true := by simpa using ge
        have gec : (G.e != 0) = false := by simpa using ge
        replace ge := hid_mk ge
        rw [geb] at hGk
        have lO := blk14c (hB.out.at_ 0 rfl)
        go_wp2_with fail
        clear lO
        refine (hWR ⟨LA, ln, Lc⟩ _ (by dsimp only; omega) hLr.out (hN.vs.to q14) (ht.to q14)).mono ?_
        rintro e w15 ⟨rfl, hb1⟩
        have q15 := (after (w := w) hb1 q14).1
        have z15 := q15.size
        replace hB := hid_mk (hB.out.keep hb1)
        replace hLr := hid_mk (hLr.out.to hb1)
        clear hb1 q14 z14
        have lO := blk14f (hB.out.at_ 0 rfl)
        go_wp2_with fail
        go_meet
        clear lO
        exact ⟨!zh, rfl, q15, hB, hLr, by rw [Hid, hGk.out]; simp⟩
      case rest =>
        clear hB q14 z14 hLr hGk hWR
        obtain ⟨g, rfl, q30, hB, hLr, hg⟩ := hcut
        obtain ⟨w30, hwc⟩ : ∃ x, x = wc := ⟨wc, rfl⟩
        subst hwc
        have z30 := q30.size
        cases g
        case true =>
          have hfi := hid_mk (hyD.out hg.out)
          have hfin := hid_mk (hfi.out)
          have lX := blk14f (hB.out.at_ 4 rfl)
          have lY := blk14f (hB.out.at_ 2 rfl)
          have lM := blk11f (hB.out.at_ 3 rfl)
          go_upto_region 21 with fail
          clear lX lY lM
          refine regm (fun w' => AtN w' (w.heap.size) ⟨N.id, N.h, 0, M.fr, TT, N.commit, [], []⟩ ⟨a.R, a.V, ⟨none, 0, 0⟩, ⟨none, 0, 0⟩⟩) 7 7 [(0, 0), (0, 0), (0, 0), (4, 4), (10, 10), (17, 1), (63, 16)] (by exact (hB.out.at_ 4 rfl).atN) (fun hS0 hR => ?_)
          replace hB := hid_mk hB.out.drew
          have qd : Below w.heap.size w w30.drew := by go_grown
          obtain ⟨wd, hwd⟩ : ∃ x, w30.drew = x := ⟨_, rfl⟩
          rw [hwd] at hS0 hB  qd ⊢
          clear hwd q30 z30
          have zd := qd.size
          refine tkn (i := 0) hR hS0 (h := ?_)
          refine tkn (i := 1) hR hS0 (h := ?_)
          refine tkn (i := 2) hR hS0 (h := ?_)
          refine onem (i := 3) hR (h := fun K hK => ?_)
          go_simp
          refine (hLF _ (hFok (hN.to qd)) hj.out).mono ?_
          rintro e wL ⟨rfl, hb1⟩
          have qL := (after (w := w) hb1 qd).1
          replace hB := hid_mk (hB.out.keep hb1)
          clear hb1
          have hS1 := (hB.out.at_ 4 rfl).atN
          refine hK.out _ _ (fun _ => hS1) ?_
          clear hK K hS0
          have hS0 := hS1
          clear hS1
          refine onem (i := 4) hR (h := fun K hK => ?_)
          go_simp
          refine (AnsT_any false (la) N.id M.fr N.h.t (w.heap.size) (w.heap.size + 1) _ ((hB.out.at_ 4 rfl).cell 0) ((hB.out.at_ 4 rfl).cell 1) ((hB.out.at_ 3 rfl).cell 1)).mono ?_
          rintro e wS ⟨gS, rfl, kS, hb1⟩
          have qS := (after (w := w) hb1 qL).1
          have hL1 : Hid (Mgs wS B (some ⟨gS, 0, none⟩) 1 [((fitM N.id M.fr N.h.t false la), nilMA)]) := hid_mk (mgs_one (M := (fitM N.id M.fr N.h.t false la)) kS rfl rfl rfl)
          replace hB := hid_mk (hB.out.keep hb1)
          clear hb1 kS
          have hS1 := (hB.out.at_ 4 rfl).atN
          refine hK.out _ _ (fun _ => hS1) ?_
          clear hK K hS0
          have hS0 := hS1
          clear hS1
          have lY := blk14f (hB.out.at_ 2 rfl)
          refine onem (i := 5) hR (h := fun K hK => ?_)
          go_simp
          clear lY
          replace hL1 := hid_mk (mgs_setN hL1.out (hB.out.at_ 2 rfl) (by dsimp only; omega) ⟨N.id, N.h, 0, M.fr, TT, N.commit, [], []⟩ ⟨a.R, a.V, ⟨none, 0, 0⟩, ⟨none, 0, 0⟩⟩)
          have qz := setN_below ⟨N.id, N.h, 0, M.fr, TT, N.commit, [], []⟩ ⟨a.R, a.V, ⟨none, 0, 0⟩, ⟨none, 0, 0⟩⟩ qS (by omega : w.heap.size ≤ w.heap.size + 1 + 1)
          have hBn := hB.out.setN 2 rfl ⟨N.id, N.h, 0, M.fr, TT, N.commit, [], []⟩ ⟨a.R, a.V, ⟨none, 0, 0⟩, ⟨none, 0, 0⟩⟩
          obtain ⟨wz, hwz⟩ : ∃ x, setN wS (w.heap.size + 1 + 1) ⟨N.id, N.h, 0, M.fr, TT, N.commit, [], []⟩ ⟨a.R, a.V, ⟨none, 0, 0⟩, ⟨none, 0, 0⟩⟩ = x := ⟨_, rfl⟩
          rw [hwz] at hBn  qz hL1
          replace hB : Hid (Bxs w.heap.size wz [⟨gO, 30, ndC ⟨N.id, ⟨N.h.t, N.h.v, G.l, N.h.s, N.h.vs⟩, 0, M.fr, TT, N.commit, [], []⟩ ⟨⟨LA, ln, Lc⟩, a.V, ⟨none, 0, 0⟩, ⟨none, 0, 0⟩⟩⟩, ⟨gL, 24, #[.int .i64 G.l.base, .int .i64 G.l.bt, .slice LA ln Lc]⟩, ⟨w.heap.size + 1 + 1, 30, ndC ⟨N.id, N.h, 0, M.fr, TT, N.commit, [], []⟩ ⟨a.R, a.V, ⟨none, 0, 0⟩, ⟨none, 0, 0⟩⟩⟩, ⟨w.heap.size + 1, 32, msC M b⟩, ⟨w.heap.size, 30, ndC ⟨N.id, N.h, 0, M.fr, TT, N.commit, [], []⟩ ⟨a.R, a.V, ⟨none, 0, 0⟩, ⟨none, 0, 0⟩⟩⟩]) := hid_mk hBn
          clear hBn
          unfold setN set14 at hwz
          rw [hwz]
          clear hwz
          have hS1 := (hB.out.at_ 4 rfl).atN
          refine hK.out _ _ (fun _ => hS1) ?_
          clear hK K hS0
          have hS0 := hS1
          clear hS1
          refine onem (i := 6) hR (h := fun K hK => ?_)
          go_simp
          have hS1 := (hB.out.at_ 4 rfl).atN
          refine hK.out _ _ (fun _ => hS1) ?_
          clear hK K hS0
          have hS0 := hS1
          clear hS1
          refine donem hR (h := ?_)
          try simp only [Act.put]
          have lY := blk14c (hB.out.at_ 2 rfl)
          go_wp2
          refine ends_ret hQ (v := .tuple #[.agg (ndC ⟨N.id, N.h, 0, M.fr, TT, N.commit, [], []⟩ ⟨a.R, a.V, ⟨none, 0, 0⟩, ⟨none, 0, 0⟩⟩), .slice (some ⟨gS, 0, none⟩) 1 1]) (by simp [results, Tryz.results33, go_sem, lY, ndC]) rfl ?_
          exact ⟨⟨a.R, a.V, ⟨none, 0, 0⟩, ⟨none, 0, 0⟩⟩, some ⟨gS, 0, none⟩, 1, 1, [((fitM N.id M.fr N.h.t false la), nilMA)], by rw [hfin.out.1]; rfl, by (rw [hfin.out.1]; exact hFok (hN.to qz)), hL1.out, by rw [hfin.out.2]; rfl, Nat.le_refl _, qz⟩
        have h := hK4.out
        rw [hzb2.out, hg.out] at h
        cases h
set_option maxRecDepth 100000 in
set_option maxHeartbeats 12800000 in
theorem ETake3_any (N : Nd) (a : NdA) (M : Ms) (b : MsA) (d : Int) (w : World) {B : Nat} (hBw : B ≤ w.heap.size) (hN : NdOk w B N a) (hM : MsOk w B M b) (ht : Tab w) (hK1 : toldE N M 3 = true) (hK2 : M.term = N.h.t) (hK3 : ¬ N.role = 2) (hK4 : (badR N M.index M.rs || !(takeOk N M)) = false) :
    Calls Tryz.prog 33 #[nodeV N a, msgV M b, .int .i64 d] w (RetNMs w B (takeN N M d) (takeL N M)) := by
  have hmf : ∀ (fn : Fn) (first cap : Array Value) (w : World), (Instr.makeFunc fn first cap).run Tryz.prog w = .ok (.func fn first cap) w := fun _ _ _ _ => rfl
  obtain ⟨z, hz⟩ : ∃ x, toldE N M 3 = x := ⟨_, rfl⟩
  obtain ⟨la, hla⟩ : ∃ x, lastJ N.h.l = x := ⟨_, rfl⟩
  obtain ⟨zb, hzb⟩ : ∃ x, badR N M.index M.rs = x := ⟨_, rfl⟩
  obtain ⟨zk, hzk⟩ : ∃ x, takeOk N M = x := ⟨_, rfl⟩
  rw [hz] at hK1
  rw [hzb, hzk] at hK4
  replace hK1 := hid_mk hK1
  replace hK2 := hid_mk hK2
  replace hK3 := hid_mk hK3
  replace hK4 := hid_mk hK4
  obtain ⟨G, hG⟩ : ∃ x, takeMg N M = x := ⟨_, rfl⟩
  obtain ⟨N', hN'⟩ : ∃ x, takeN N M d = x := ⟨_, rfl⟩
  obtain ⟨L, hL⟩ : ∃ x, takeL N M = x := ⟨_, rfl⟩
  obtain ⟨TT, hTT⟩ : ∃ x, min (max d 0) 1048576 = x := ⟨_, rfl⟩
  have hr : Hid (z = true → rightN N = true ∧ mayM M = true) := fun e => by
    rw [← hz] at e
    unfold toldE at e
    simp only [Bool.and_eq_true] at e
    exact ⟨e.1, e.2.1⟩
  have hNo1 : Hid (z = false → N' = N ∧ L = []) := fun e => by
    rw [← hN', ← hL]
    exact take_not (by rw [toldC_E, hz, e]; rfl)
  have hNo2 : Hid (N.h.t < M.term → N' = N ∧ L = []) := fun e => by
    rw [← hN', ← hL]
    exact take_not (by rw [toldC_E, show decide (M.term ≤ N.h.t) = false by simpa using e]; simp)
  have hYes : Hid (z = true → M.term ≤ N.h.t →
      (M.term < N.h.t → N' = N ∧ L = [fitM N.id M.fr N.h.t false la]) ∧ (N.h.t ≤ M.term → N.role = 2 → N' = N ∧ L = []) ∧
      (N.h.t ≤ M.term → ¬ N.role = 2 → zb = true → N' = ⟨N.id, N.h, 0, M.fr, TT, N.commit, [], []⟩ ∧ L = [fitM N.id M.fr N.h.t false N.commit]) ∧
      (N.h.t ≤ M.term → ¬ N.role = 2 → zb = false → zk = false → N' = ⟨N.id, N.h, 0, M.fr, TT, N.commit, [], []⟩ ∧ L = [fitM N.id M.fr N.h.t false la]) ∧
      (N.h.t ≤ M.term → ¬ N.role = 2 → zb = false → zk = true → G.f = false → N' = ⟨N.id, N.h, 0, M.fr, TT, N.commit, [], []⟩ ∧ L = [fitM N.id M.fr N.h.t false G.n]) ∧
      (N.h.t ≤ M.term → ¬ N.role = 2 → zb = false → zk = true → G.f = true → N' = ⟨N.id, ⟨N.h.t, N.h.v, G.l, N.h.s, N.h.vs⟩, 0, M.fr, TT, max N.commit (min M.commit G.n), [], []⟩ ∧ L = [fitM N.id M.fr N.h.t true G.n])) := fun e e2 => by
    have hp : toldC N M 3 = true := by rw [toldC_E, hz, e]; simpa using e2
    rw [← hN', ← hL, ← hla, ← hzb, ← hzk, ← hG, ← hTT]
    exact take_say hp
  have hGk : Hid (zk = ((G.e == 0) && rightH ⟨N.h.t, N.h.v, G.l, N.h.s, N.h.vs⟩)) := by rw [← hzk, ← hG]; rfl
  have hGl : G.l.rs.length ≤ N.h.l.rs.length + 200 := by rw [← hG]; exact mg_len _ _ _ _
  rw [hN', hL]
  have hTo := fun (w : World) (h : NdOk w B N a) (h2 : MsOk w B M b) (h3 : Tab w) => ETold_any N a M b 3 w h h2 h3
  rw [hz] at hTo
  have hLA := fun (w : World) (h : NdOk w B N a) (hj : rightJ N.h.l = true) => ELast_any N a w h hj
  have hLF := fun (w : World) (h : NdOk w B ⟨N.id, N.h, 0, M.fr, TT, N.commit, [], []⟩ ⟨a.R, a.V, ⟨none, 0, 0⟩, ⟨none, 0, 0⟩⟩) (hj : rightJ N.h.l = true) => ELast_any ⟨N.id, N.h, 0, M.fr, TT, N.commit, [], []⟩ ⟨a.R, a.V, ⟨none, 0, 0⟩, ⟨none, 0, 0⟩⟩ w h hj
  dsimp only at hLF
  rw [hla] at hLA hLF
  have hMG := fun (w : World) (h0 : B ≤ w.heap.size) (h : NdOk w B N a) (h2 : MsOk w B M b) => Merge_any N.h.l M.index M.lterm M.rs a.R.A a.R.n a.R.c b.R.A b.R.n b.R.c w h0 (by have := hN.rb; omega) (by have := hM.rb; omega) hN.rc hM.rc h.recs h2.recs
  have hMGe : mergeJ N.h.l M.index M.lterm M.rs = G := hG
  rw [hMGe] at hMG
  obtain ⟨zh, hzh⟩ : ∃ x, rightH ⟨N.h.t, N.h.v, G.l, N.h.s, N.h.vs⟩ = x := ⟨_, rfl⟩
  rw [hzh] at hGk
  have hWR := fun (R : Slc) (w : World) (k1 : R.n ≤ 140737488355328) (k3 : Recs w B R.A R.n G.l.rs) (k4 : Ints w B a.V.A a.V.n N.h.vs) (k5 : Tab w) => WRight_any ⟨N.h.t, N.h.v, G.l, N.h.s, N.h.vs⟩ R a.V w k1 (by have := hN.vb; omega) k3 k4 k5
  rw [hzh] at hWR
  have hTA := fun (p : Int) (w : World) (h : NdOk w B N a) => TermAt_any N.h.l p a.R.A a.R.n a.R.c w (by have := hN.rb; omega) h.recs
  have hFok : ∀ {w' : World}, NdOk w' B N a → NdOk w' B ⟨N.id, N.h, 0, M.fr, TT, N.commit, [], []⟩ ⟨a.R, a.V, ⟨none, 0, 0⟩, ⟨none, 0, 0⟩⟩ := fun h =>
    ⟨h.recs, h.rc, h.rb, h.vs, h.vc, h.vb, h.sb, Reads.none_, Nat.le_refl _, by dsimp only; omega, Reads.none_, Nat.le_refl _, by dsimp only; omega⟩
  have hnb := hN.rb
  have hmb := hM.rb
  have hlN := hN.recs.len
  have hlM := hM.recs.len
  replace hz := hid_mk hz
  replace hla := hid_mk hla
  replace hzb := hid_mk hzb
  replace hzh := hid_mk hzh
  replace hTT := hid_mk hTT
  clear hN' hL hzk hG hMGe
  unfold nodeV at hTo hLA hLF ⊢
  unfold msgV at hTo ⊢
  unfold logV at hMG hTA
  unfold hdV at hWR
  dsimp only at hTo hLA hLF hMG hTA hWR ⊢
  obtain ⟨w0, hw0⟩ : ∃ x, (((w.alloc (.cells (ndC N a) 30)).alloc (.cells (msC M b) 32)).alloc (.cells (ndC zeroN nilA) 30)) = x := ⟨_, rfl⟩
  have hB : Hid (Bxs w.heap.size w0 [⟨w.heap.size + 1 + 1, 30, ndC zeroN nilA⟩, ⟨w.heap.size + 1, 32, msC M b⟩, ⟨w.heap.size, 30, ndC N a⟩]) := by
    rw [← hw0]
    exact ((((Bxs.nil w.heap.size w).add_ rfl (by omega) 30 (ndC N a)).add_ (by simp) (by omega) 32 (msC M b)).add_ (by simp) (by omega) 30 (ndC zeroN nilA))
  have q0 : Below w.heap.size w w0 := by rw [← hw0]; go_grown
  have z0 := q0.size
  dsimp only [ndC, msC, zeroN, nilA, zeroM, nilMA] at hw0
  refine calls_of_wpQ Tryz.func33 rfl ?_
  intro Q hQ
  simp only [Tryz.ntmps33, List.size_toArray, List.length_cons, List.length_nil, Nat.reduceAdd, Nat.reduceSub, Array.replicate_succ, Array.replicate_zero, List.push_toArray, List.append_toArray, List.nil_append, List.cons_append]
  go_upto_region 1 with fail
  try rw [hw0]
  clear hw0
  have lX := blk14c (hB.out.at_ 2 rfl)
  have lM := blk11v (hB.out.at_ 1 rfl)
  go_wp2_with fail
  clear lX lM
  refine (hTo _ (hN.to q0) (hM.to q0) (ht.to q0)).mono ?_
  rintro e w1 ⟨rfl, hb1⟩
  have q1 := (after (w := w) hb1 q0).1
  have z1 := q1.size
  replace hB := hid_mk (hB.out.keep hb1)
  clear hb1 q0 z0
  cases z
  case false =>
    exact absurd hK1.out (by decide)
  by_cases g0 : N.h.t < M.term
  case pos =>
    exact absurd g0 (by have := hK2.out; omega)
  have g0b : decide (N.h.t < M.term) = false := by simpa using g0
  replace g0 : M.term ≤ N.h.t := by omega
  obtain ⟨hyA, hyB, hyC, hyD, hyE, hyF⟩ := hYes.out rfl g0
  replace hyA := hid_mk hyA
  replace hyB := hid_mk hyB
  replace hyC := hid_mk hyC
  replace hyD := hid_mk hyD
  replace hyE := hid_mk hyE
  replace hyF := hid_mk hyF
  have hj : Hid (rightJ N.h.l = true) := (right_n (hr.out rfl).1).1
  have hn200 : a.R.n ≤ 200 := by
    have h2 := (right_iff.1 hj.out).2.2.2.2.2.1
    omega
  have hix := may_bounds (hr.out rfl).2
  have hix0 : 0 ≤ M.index ∧ M.index ≤ 1073741824 := hix.2.2.2.2.2.1
  have hcb0 := commit_bounds (hr.out rfl).1
  have hcbs : Hid (0 ≤ N.h.l.base ∧ N.h.l.base ≤ N.commit) := ⟨hcb0.1, hcb0.2.1⟩
  have hRN : Hid (rightN N = true) := (hr.out rfl).1
  clear hYes hNo1 hNo2 hTo hix hcb0 hr
  replace g0 := hid_mk g0
  by_cases g1 : M.term < N.h.t
  case pos =>
    exact absurd hK2.out (by omega)
  have g1b : decide (M.term < N.h.t) = false := by simpa using g1
  replace g1 : N.h.t ≤ M.term := by omega
  replace g1 := hid_mk g1
  by_cases g2 : N.role = 2
  case pos =>
    exact absurd g2 hK3.out
  have g2b : (N.role == 2) = false := by simpa using g2
  replace g2 := hid_mk g2
  replace hyC := hid_mk (hyC.out g1.out g2.out)
  replace hyD := hid_mk (hyD.out g1.out g2.out)
  replace hyE := hid_mk (hyE.out g1.out g2.out)
  replace hyF := hid_mk (hyF.out g1.out g2.out)
  clear hyA hyB
  have lX := blk14f (hB.out.at_ 2 rfl)
  have lM := blk11f (hB.out.at_ 1 rfl)
  go_upto_region 8 with fail
  clear lX lM
  refine regm (fun w' => w'.cell? ⟨w.heap.size + 1, 1, none⟩ = some (.int .i64 M.fr)) 15 15 [(0, 0), (1, 1), (0, 0), (4, 4), (8, 8), (0, 0), (32, 32), (96, 0), (224, 128), (480, 0), (992, 512), (2019, 0), (4067, 2050), (8191, 0), (16383, 8208)] (by exact (hB.out.at_ 1 rfl).cell 1) (fun hS0 hR => ?_)
  replace hB := hid_mk hB.out.drew
  have qd : Below w.heap.size w w1.drew := by go_grown
  obtain ⟨wd, hwd⟩ : ∃ x, w1.drew = x := ⟨_, rfl⟩
  rw [hwd] at hS0 hB  qd ⊢
  clear hwd q1 z1
  have zd := qd.size
  refine tkn (i := 0) hR hS0 (h := ?_)
  refine tkn (i := 1) hR hS0 (h := ?_)
  refine tkn (i := 2) hR hS0 (h := ?_)
  refine tkn (i := 3) hR hS0 (h := ?_)
  refine tkn (i := 4) hR hS0 (h := ?_)
  simp only [Act.put]
  refine tkn (i := 5) hR hS0 (h := ?_)
  have lX := blk14f (hB.out.at_ 2 rfl)
  refine onem (i := 6) hR (h := fun K hK => ?_)
  go_simp
  clear lX
  have hBn := hB.out.set 2 rfl 8 (.int .i64 0)
  have qf0 := qd.setCell (p := ⟨w.heap.size, 8, none⟩) (by dsimp only; omega) (.int .i64 0)
  obtain ⟨wf0, hwz⟩ : ∃ x, wd.setCell ⟨w.heap.size, 8, none⟩ (.int .i64 0) = x := ⟨_, rfl⟩
  rw [hwz] at hBn qf0 ⊢
  replace hB : Hid (Bxs w.heap.size wf0 [⟨w.heap.size + 1 + 1, 30, ndC zeroN nilA⟩, ⟨w.heap.size + 1, 32, msC M b⟩, ⟨w.heap.size, 30, ndC ⟨N.id, N.h, 0, N.lead, N.timer, N.commit, N.got, N.ps⟩ a⟩]) := hid_mk hBn
  clear hBn hwz qd zd
  have hS1 := (hB.out.at_ 1 rfl).cell 1
  refine hK.out _ _ (fun _ => hS1) ?_
  clear hK K hS0
  have hS0 := hS1
  clear hS1
  refine tkn (i := 7) hR hS0 (h := ?_)
  have lX := blk14f (hB.out.at_ 2 rfl)
  refine onem (i := 8) hR (h := fun K hK => ?_)
  go_simp
  clear lX
  have hBn := hB.out.set 2 rfl 12 (.slice none 0 0)
  have qf1 := qf0.setCell (p := ⟨w.heap.size, 12, none⟩) (by dsimp only; omega) (.slice none 0 0)
  obtain ⟨wf1, hwz⟩ : ∃ x, wf0.setCell ⟨w.heap.size, 12, none⟩ (.slice none 0 0) = x := ⟨_, rfl⟩
  rw [hwz] at hBn qf1 ⊢
  replace hB : Hid (Bxs w.heap.size wf1 [⟨w.heap.size + 1 + 1, 30, ndC zeroN nilA⟩, ⟨w.heap.size + 1, 32, msC M b⟩, ⟨w.heap.size, 30, ndC ⟨N.id, N.h, 0, N.lead, N.timer, N.commit, [], N.ps⟩ ⟨a.R, a.V, ⟨none, 0, 0⟩, a.P⟩⟩]) := hid_mk hBn
  clear hBn hwz qf0
  have hS1 := (hB.out.at_ 1 rfl).cell 1
  refine hK.out _ _ (fun _ => hS1) ?_
  clear hK K hS0
  have hS0 := hS1
  clear hS1
  refine tkn (i := 9) hR hS0 (h := ?_)
  have lX := blk14f (hB.out.at_ 2 rfl)
  refine onem (i := 10) hR (h := fun K hK => ?_)
  go_simp
  clear lX
  have hBn := hB.out.set 2 rfl 13 (.slice none 0 0)
  have qf2 := qf1.setCell (p := ⟨w.heap.size, 13, none⟩) (by dsimp only; omega) (.slice none 0 0)
  obtain ⟨wf2, hwz⟩ : ∃ x, wf1.setCell ⟨w.heap.size, 13, none⟩ (.slice none 0 0) = x := ⟨_, rfl⟩
  rw [hwz] at hBn qf2 ⊢
  replace hB : Hid (Bxs w.heap.size wf2 [⟨w.heap.size + 1 + 1, 30, ndC zeroN nilA⟩, ⟨w.heap.size + 1, 32, msC M b⟩, ⟨w.heap.size, 30, ndC ⟨N.id, N.h, 0, N.lead, N.timer, N.commit, [], []⟩ ⟨a.R, a.V, ⟨none, 0, 0⟩, ⟨none, 0, 0⟩⟩⟩]) := hid_mk hBn
  clear hBn hwz qf1
  have hS1 := (hB.out.at_ 1 rfl).cell 1
  refine hK.out _ _ (fun _ => hS1) ?_
  clear hK K hS0
  have hS0 := hS1
  clear hS1
  refine tkn (i := 11) hR hS0 (h := ?_)
  have lX := blk14f (hB.out.at_ 2 rfl)
  refine onem (i := 12) hR (h := fun K hK => ?_)
  go_simp
  clear lX
  have hBn := hB.out.set 2 rfl 9 (.int .i64 M.fr)
  have qf3 := qf2.setCell (p := ⟨w.heap.size, 9, none⟩) (by dsimp only; omega) (.int .i64 M.fr)
  obtain ⟨wf3, hwz⟩ : ∃ x, wf2.setCell ⟨w.heap.size, 9, none⟩ (.int .i64 M.fr) = x := ⟨_, rfl⟩
  rw [hwz] at hBn qf3 ⊢
  replace hB : Hid (Bxs w.heap.size wf3 [⟨w.heap.size + 1 + 1, 30, ndC zeroN nilA⟩, ⟨w.heap.size + 1, 32, msC M b⟩, ⟨w.heap.size, 30, ndC ⟨N.id, N.h, 0, M.fr, N.timer, N.commit, [], []⟩ ⟨a.R, a.V, ⟨none, 0, 0⟩, ⟨none, 0, 0⟩⟩⟩]) := hid_mk hBn
  clear hBn hwz qf2
  have hS1 := (hB.out.at_ 1 rfl).cell 1
  refine hK.out _ _ (fun _ => hS1) ?_
  clear hK K hS0
  have hS0 := hS1
  clear hS1
  refine tkn (i := 13) hR hS0 (h := ?_)
  simp only [Act.put]
  have lX := blk14f (hB.out.at_ 2 rfl)
  refine onem (i := 14) hR (h := fun K hK => ?_)
  go_simp
  clear lX
  have hBn := hB.out.set 2 rfl 10 (.int .i64 (min (max d 0) 1048576))
  have qf4 := qf3.setCell (p := ⟨w.heap.size, 10, none⟩) (by dsimp only; omega) (.int .i64 (min (max d 0) 1048576))
  obtain ⟨wf4, hwz⟩ : ∃ x, wf3.setCell ⟨w.heap.size, 10, none⟩ (.int .i64 (min (max d 0) 1048576)) = x := ⟨_, rfl⟩
  rw [hwz] at hBn qf4 ⊢
  replace hB : Hid (Bxs w.heap.size wf4 [⟨w.heap.size + 1 + 1, 30, ndC zeroN nilA⟩, ⟨w.heap.size + 1, 32, msC M b⟩, ⟨w.heap.size, 30, ndC ⟨N.id, N.h, 0, M.fr, min (max d 0) 1048576, N.commit, [], []⟩ ⟨a.R, a.V, ⟨none, 0, 0⟩, ⟨none, 0, 0⟩⟩⟩]) := hid_mk hBn
  clear hBn hwz qf3
  have hS1 := (hB.out.at_ 1 rfl).cell 1
  refine hK.out _ _ (fun _ => hS1) ?_
  clear hK K hS0
  have hS0 := hS1
  clear hS1
  refine donem hR (h := ?_)
  try simp only [Act.put]
  rw [hTT.out] at hB
  have zf := qf4.size
  obtain ⟨w10, hwc⟩ : ∃ x, x = wf4 := ⟨wf4, rfl⟩
  subst hwc
  have q10 := qf4
  have z10 := q10.size
  clear qf4 zf
  have lX := blk14f (hB.out.at_ 2 rfl)
  have lM := blk11f (hB.out.at_ 1 rfl)
  go_wp2
  clear lX lM
  go_loopw [61] (fun iv wr => ∃ k : Nat, iv = .int .i64 k ∧ k ≤ b.R.n ∧ Below w.heap.size w wr ∧ Hid (Bxs w.heap.size wr [⟨w.heap.size + 1 + 1, 30, ndC zeroN nilA⟩, ⟨w.heap.size + 1, 32, msC M b⟩, ⟨w.heap.size, 30, ndC ⟨N.id, N.h, 0, M.fr, TT, N.commit, [], []⟩ ⟨a.R, a.V, ⟨none, 0, 0⟩, ⟨none, 0, 0⟩⟩⟩]) ∧ Hid (badR N (M.index + k) (M.rs.drop k) = zb)) (fun iv _ => b.R.n - (intOf iv).toNat)
  case atStart => exact ⟨0, rfl, Nat.zero_le _, q10, hB, by rw [Hid, ← hzb.out]; simp⟩
  case round =>
    clear hB q10 z10
    obtain ⟨k, rfl, hk, qr, hB, hbad⟩ := hrel
    have zr := qr.size
    by_cases hkn : k < b.R.n
    · skip
      obtain ⟨bv, ov, r, hA, hbv, hdx, c0, c1, c2⟩ := (hM.recs.to qr).at_ hkn
      have x1 : IntKind.i64.wrap (M.index + 1) = M.index + 1 := IntWalk.i64_in _ (by omega)
      have x2 : IntKind.i64.wrap (M.index + 1 + k) = M.index + 1 + k := IntWalk.i64_in _ (by omega)
      have hstep : Hid ((if badC N (M.index + k + 1) r then true else badR N (M.index + k + 1) (M.rs.drop (k + 1))) = zb) := by
        have h := hbad.out
        rw [hdx, bad_step hRN.out] at h
        exact h
      clear hbad
      replace hdx := hid_mk hdx
      have lX := blk14c (hB.out.at_ 2 rfl)
      have lM := blk11v (hB.out.at_ 1 rfl)
      obtain ⟨gR, hgR⟩ : ∃ g, wr.heap.size = g := ⟨_, rfl⟩
      have lgR : w.heap.size ≤ gR := by rw [← hgR]; exact qr.size
      replace hB := hid_mk (hB.out.add_ hgR lgR 51 (#[.int .i64 r.t, .int .i64 r.k, .string r.d]))
      have q11 := qr.alloc qr.size (.cells (#[.int .i64 r.t, .int .i64 r.k, .string r.d]) 51)
      obtain ⟨w11, hw11⟩ : ∃ x, wr.alloc (.cells (#[.int .i64 r.t, .int .i64 r.k, .string r.d]) 51) = x := ⟨_, rfl⟩
      rw [hw11] at hB  q11
      try unfold ndC at hw11
      replace hw11 := hid_mk hw11
      replace hgR := hid_mk hgR
      go_upto_region 13 with fail
      try rw [hw11.out]
      try rw [hgR.out]
      clear lX lM hw11 hgR qr zr
      have z11 := q11.size
      clear c0 c1 c2 x1 x2
      have lX := blk14c (hB.out.at_ 3 rfl)
      go_wp2_with fail
      clear lX
      refine (hTA (M.index + 1 + k) _ (hN.to q11)).mono ?_
      rintro e w12 ⟨rfl, hb1⟩
      have q12 := (after (w := w) hb1 q11).1
      have z12 := q12.size
      replace hB := hid_mk (hB.out.keep hb1)
      clear hb1 q11 z11
      have hstep2 : Hid ((if ((termAtJ N.h.l (M.index + 1 + k)).isSome && (decide (N.h.l.base < M.index + 1 + k) && (decide (M.index + 1 + k ≤ N.commit) && !((termAtJ N.h.l (M.index + 1 + k)).getD 0 == r.t)))) then true else badR N (M.index + k + 1) (M.rs.drop (k + 1))) = zb) := by
        have h := hstep.out
        rw [show M.index + (k : Int) + 1 = M.index + 1 + k from by omega] at h ⊢
        exact h
      clear hstep
      obtain ⟨ti, hti⟩ : ∃ x, (termAtJ N.h.l (M.index + 1 + k)).isSome = x := ⟨_, rfl⟩
      obtain ⟨tv, htv⟩ : ∃ x, (termAtJ N.h.l (M.index + 1 + k)).getD 0 = x := ⟨_, rfl⟩
      rw [hti, htv] at hstep2
      try rw [hti, htv]
      replace hti := hid_mk hti
      replace htv := hid_mk htv
      obtain ⟨at1, hat⟩ : ∃ x, M.index + 1 + (k : Int) = x := ⟨_, rfl⟩
      rw [hat] at hstep2
      try rw [hat]
      replace hat := hid_mk hat
      have lX := blk14f (hB.out.at_ 3 rfl)
      have lR := blk3f (hB.out.at_ 0 rfl)
      go_upto_region 14 with fail
      clear lX lR
      go_cut [99] from 79 to 99 (fun p99 wx => ∃ g : Bool, p99 = .bool g ∧ Below w.heap.size w wx ∧ Hid (Bxs w.heap.size wx [⟨gR, 51, #[.int .i64 r.t, .int .i64 r.k, .string r.d]⟩, ⟨w.heap.size + 1 + 1, 30, ndC zeroN nilA⟩, ⟨w.heap.size + 1, 32, msC M b⟩, ⟨w.heap.size, 30, ndC ⟨N.id, N.h, 0, M.fr, TT, N.commit, [], []⟩ ⟨a.R, a.V, ⟨none, 0, 0⟩, ⟨none, 0, 0⟩⟩⟩]) ∧ Hid ((if g then true else badR N (M.index + k + 1) (M.rs.drop (k + 1))) = zb))
      case first =>
        cases ti
        case false =>
          have lX := blk14f (hB.out.at_ 3 rfl)
          have lR := blk3f (hB.out.at_ 0 rfl)
          go_wp2_with fail
          go_meet
          clear lX lR
          exact ⟨false, rfl, q12, hB, hstep2⟩
        case true =>
          by_cases k1 : N.h.l.base < at1
          case neg =>
            have k1b : decide (N.h.l.base < at1) = false := by simpa using k1
            replace k1 := hid_mk k1
            rw [k1b] at hstep2
            have lX := blk14f (hB.out.at_ 3 rfl)
            have lR := blk3f (hB.out.at_ 0 rfl)
            go_wp2_with fail
            go_meet
            clear lX lR
            exact ⟨false, rfl, q12, hB, hstep2⟩
          have k1b : decide (N.h.l.base < at1) = true := by simpa using k1
          replace k1 := hid_mk k1
          rw [k1b] at hstep2
          by_cases k2 : at1 ≤ N.commit
          case neg =>
            have k2b : decide (at1 ≤ N.commit) = false := by simpa using k2
            replace k2 := hid_mk k2
            rw [k2b] at hstep2
            have lX := blk14f (hB.out.at_ 3 rfl)
            have lR := blk3f (hB.out.at_ 0 rfl)
            go_wp2_with fail
            go_meet
            clear lX lR
            exact ⟨false, rfl, q12, hB, hstep2⟩
          have k2b : decide (at1 ≤ N.commit) = true := by simpa using k2
          replace k2 := hid_mk k2
          rw [k2b] at hstep2
          by_cases k3 : tv = r.t
          case pos =>
            have k3b : (tv == r.t) = true := by simpa using k3
            have k3c : (tv != r.t) = false := by simpa using k3
            replace k3 := hid_mk k3
            rw [k3b] at hstep2
            have lX := blk14f (hB.out.at_ 3 rfl)
            have lR := blk3f (hB.out.at_ 0 rfl)
            go_wp2_with fail
            go_meet
            clear lX lR
            exact ⟨false, rfl, q12, hB, hstep2⟩
          have k3b : (tv == r.t) = false := by simpa using k3
          have k3c : (tv != r.t) = true := by simpa using k3
          replace k3 := hid_mk k3
          rw [k3b] at hstep2
          have lX := blk14f (hB.out.at_ 3 rfl)
          have lR := blk3f (hB.out.at_ 0 rfl)
          go_wp2_with fail
          go_meet
          clear lX lR
          exact ⟨true, rfl, q12, hB, hstep2⟩
      case rest =>
        clear hB q12 z12 hstep2 hti htv hat
        obtain ⟨g, rfl, q20, hB, hg⟩ := hcut
        obtain ⟨w20, hwc⟩ : ∃ x, x = wc := ⟨wc, rfl⟩
        subst hwc
        have z20 := q20.size
        cases g
        case true =>
          have h := hK4.out
          rw [← hg.out] at h
          cases h
        have lX := blk14f (hB.out.at_ 3 rfl)
        have lM := blk11f (hB.out.at_ 2 rfl)
        go_wp2
        clear lX lM
        go_roundw
        case rel =>
          (repeat apply Exists.intro)
          have hbn : Hid (badR N (M.index + ((k + 1 : Nat) : Int)) (M.rs.drop (k + 1)) = zb) := by rw [Hid, show M.index + ((k + 1 : Nat) : Int) = M.index + k + 1 from by omega]; exact hg.out
          first | refine ⟨⟨k + 1, rfl, by omega, q20, hB.out.tail, hbn⟩, ?_⟩ | refine ⟨⟨k + 1, rfl, by omega, hB.out.tail, hbn⟩, ?_⟩
          repeat' (first | rfl | go_num | apply And.intro)
        case measure => simp [intOf]; omega
    · skip
      have hkr : k = b.R.n := by omega
      have hzb2 : zb = false := by
        have h := hbad.out
        rw [List.drop_eq_nil_of_le (by omega)] at h
        exact h.symm
      clear hbad
      replace hyD := hid_mk (hyD.out hzb2)
      replace hyE := hid_mk (hyE.out hzb2)
      replace hyF := hid_mk (hyF.out hzb2)
      replace hzb2 := hid_mk hzb2
      clear hyC
      have lX := blk14c (hB.out.at_ 2 rfl)
      have lM := blk11v (hB.out.at_ 1 rfl)
      go_wp2_with fail
      clear lX lM
      refine (hMG _ (by omega) (hN.to qr) (hM.to qr)).mono ?_
      rintro e w11 ⟨LA, ln, Lc, rfl, hLr, hlc, hlm, hb1⟩
      have q11 := (after (w := w) hb1 qr).1
      have z11 := q11.size
      replace hB := hid_mk (hB.out.keep hb1)
      clear hb1 qr zr
      unfold logV
      dsimp only at hLr ⊢
      have hln : ln ≤ 400 := by have := hLr.len; omega
      replace hLr := hid_mk hLr
      have lX := blk14c (hB.out.at_ 2 rfl)
      have lM := blk11v (hB.out.at_ 1 rfl)
      obtain ⟨gL, hgL⟩ : ∃ g, w11.heap.size = g := ⟨_, rfl⟩
      have lgL : w.heap.size ≤ gL := by rw [← hgL]; exact q11.size
      replace hB := hid_mk (hB.out.add_ hgL lgL 24 (#[.int .i64 G.l.base, .int .i64 G.l.bt, .slice LA ln Lc]))
      replace hLr := hid_mk (hLr.out.to ((Below.refl _ w11).alloc (Nat.le_refl _) (.cells (#[.int .i64 G.l.base, .int .i64 G.l.bt, .slice LA ln Lc]) 24)))
      have q12 := q11.alloc q11.size (.cells (#[.int .i64 G.l.base, .int .i64 G.l.bt, .slice LA ln Lc]) 24)
      obtain ⟨w12, hw12⟩ : ∃ x, w11.alloc (.cells (#[.int .i64 G.l.base, .int .i64 G.l.bt, .slice LA ln Lc]) 24) = x := ⟨_, rfl⟩
      rw [hw12] at hB hLr q12
      try unfold ndC at hw12
      replace hw12 := hid_mk hw12
      replace hgL := hid_mk hgL
      go_upto_region 18 with fail
      try rw [hw12.out]
      try rw [hgL.out]
      clear lX lM hw12 hgL q11 z11
      have z12 := q12.size
      have lX := blk14c (hB.out.at_ 3 rfl)
      have lL := blk3 (hB.out.at_ 0 rfl)
      obtain ⟨gO, hgO⟩ : ∃ g, w12.heap.size = g := ⟨_, rfl⟩
      have lgO : w.heap.size ≤ gO := by rw [← hgO]; exact q12.size
      replace hB := hid_mk (hB.out.add_ hgO lgO 30 (ndC ⟨N.id, N.h, 0, M.fr, TT, N.commit, [], []⟩ ⟨a.R, a.V, ⟨none, 0, 0⟩, ⟨none, 0, 0⟩⟩))
      replace hLr := hid_mk (hLr.out.to ((Below.refl _ w12).alloc (Nat.le_refl _) (.cells (ndC ⟨N.id, N.h, 0, M.fr, TT, N.commit, [], []⟩ ⟨a.R, a.V, ⟨none, 0, 0⟩, ⟨none, 0, 0⟩⟩) 30)))
      have q13 := q12.alloc q12.size (.cells (ndC ⟨N.id, N.h, 0, M.fr, TT, N.commit, [], []⟩ ⟨a.R, a.V, ⟨none, 0, 0⟩, ⟨none, 0, 0⟩⟩) 30)
      obtain ⟨w13, hw13⟩ : ∃ x, w12.alloc (.cells (ndC ⟨N.id, N.h, 0, M.fr, TT, N.commit, [], []⟩ ⟨a.R, a.V, ⟨none, 0, 0⟩, ⟨none, 0, 0⟩⟩) 30) = x := ⟨_, rfl⟩
      rw [hw13] at hB hLr q13
      try unfold ndC at hw13
      replace hw13 := hid_mk hw13
      replace hgO := hid_mk hgO
      go_upto_region 19 with fail
      try rw [hw13.out]
      try rw [hgO.out]
      clear lX lL hw13 hgO q12 z12
      have z13 := q13.size
      have lO := blk14f (hB.out.at_ 0 rfl)
      have lL := blk3f (hB.out.at_ 1 rfl)
      go_upto_region 20 with fail
      clear lO lL
      have hBn : Bxs w.heap.size (((w13.setCell ⟨gO, 3, none⟩ (.int .i64 G.l.base)).setCell ⟨gO, 4, none⟩ (.int .i64 G.l.bt)).setCell ⟨gO, 5, none⟩ (.slice LA ln Lc)) [⟨gO, 30, ndC ⟨N.id, ⟨N.h.t, N.h.v, G.l, N.h.s, N.h.vs⟩, 0, M.fr, TT, N.commit, [], []⟩ ⟨⟨LA, ln, Lc⟩, a.V, ⟨none, 0, 0⟩, ⟨none, 0, 0⟩⟩⟩, ⟨gL, 24, #[.int .i64 G.l.base, .int .i64 G.l.bt, .slice LA ln Lc]⟩, ⟨w.heap.size + 1 + 1, 30, ndC zeroN nilA⟩, ⟨w.heap.size + 1, 32, msC M b⟩, ⟨w.heap.size, 30, ndC ⟨N.id, N.h, 0, M.fr, TT, N.commit, [], []⟩ ⟨a.R, a.V, ⟨none, 0, 0⟩, ⟨none, 0, 0⟩⟩⟩] := (((hB.out.set 0 rfl 3 (.int .i64 G.l.base)).set 0 rfl 4 (.int .i64 G.l.bt)).set 0 rfl 5 (.slice LA ln Lc))
      have q14 := (((q13.setCell (p := ⟨gO, 3, none⟩) (by dsimp only; omega) (.int .i64 G.l.base)).setCell (p := ⟨gO, 4, none⟩) (by dsimp only; omega) (.int .i64 G.l.bt)).setCell (p := ⟨gO, 5, none⟩) (by dsimp only; omega) (.slice LA ln Lc))
      have hLrn : Recs (((w13.setCell ⟨gO, 3, none⟩ (.int .i64 G.l.base)).setCell ⟨gO, 4, none⟩ (.int .i64 G.l.bt)).setCell ⟨gO, 5, none⟩ (.slice LA ln Lc)) B LA ln G.l.rs := (Reads.far (Reads.far (Reads.far hLr.out (hB.out.at_ 0 rfl) (by dsimp only; omega) (by dsimp only; decide) 3 (.int .i64 G.l.base)) ((hB.out.set 0 rfl 3 (.int .i64 G.l.base)).at_ 0 rfl) (by dsimp only; omega) (by dsimp only; decide) 4 (.int .i64 G.l.bt)) (((hB.out.set 0 rfl 3 (.int .i64 G.l.base)).set 0 rfl 4 (.int .i64 G.l.bt)).at_ 0 rfl) (by dsimp only; omega) (by dsimp only; decide) 5 (.slice LA ln Lc))
      obtain ⟨w14, hwz⟩ : ∃ x, (((w13.setCell ⟨gO, 3, none⟩ (.int .i64 G.l.base)).setCell ⟨gO, 4, none⟩ (.int .i64 G.l.bt)).setCell ⟨gO, 5, none⟩ (.slice LA ln Lc)) = x := ⟨_, rfl⟩
      rw [hwz] at hBn q14 hLrn
      try rw [hwz]
      clear hwz
      replace hB := hid_mk hBn
      clear hBn
      replace hLr := hid_mk hLrn
      clear hLrn
      have z14 := q14.size
      clear q13 z13
      go_cut [125] from 126 (fun p125 wx => ∃ g : Bool, p125 = .bool g ∧ Below w.heap.size w wx ∧ Hid (Bxs w.heap.size wx [⟨gO, 30, ndC ⟨N.id, ⟨N.h.t, N.h.v, G.l, N.h.s, N.h.vs⟩, 0, M.fr, TT, N.commit, [], []⟩ ⟨⟨LA, ln, Lc⟩, a.V, ⟨none, 0, 0⟩, ⟨none, 0, 0⟩⟩⟩, ⟨gL, 24, #[.int .i64 G.l.base, .int .i64 G.l.bt, .slice LA ln Lc]⟩, ⟨w.heap.size + 1 + 1, 30, ndC zeroN nilA⟩, ⟨w.heap.size + 1, 32, msC M b⟩, ⟨w.heap.size, 30, ndC ⟨N.id, N.h, 0, M.fr, TT, N.commit, [], []⟩ ⟨a.R, a.V, ⟨none, 0, 0⟩, ⟨none, 0, 0⟩⟩⟩]) ∧ Hid (Recs wx B LA ln G.l.rs) ∧ Hid (zk = !g))
      case first =>
        by_cases ge : G.e = 0
        case neg =>
          have geb : (G.e == 0) = false := by simpa using ge
          have gec : (G.e != 0) = true := by simpa using ge
          replace ge := hid_mk ge
          rw [geb] at hGk
          have lO := blk14f (hB.out.at_ 0 rfl)
          go_wp2_with fail
          go_meet
          clear lO
          exact ⟨true, rfl, q14, hB, hLr, hGk⟩
        have geb : (G.e == 0) = true := by simpa using ge
        have gec : (G.e != 0) = false := by simpa using ge
        replace ge := hid_mk ge
        rw [geb] at hGk
        have lO := blk14c (hB.out.at_ 0 rfl)
        go_wp2_with fail
        clear lO
        refine (hWR ⟨LA, ln, Lc⟩ _ (by dsimp only; omega) hLr.out (hN.vs.to q14) (ht.to q14)).mono ?_
        rintro e w15 ⟨rfl, hb1⟩
        have q15 := (after (w := w) hb1 q14).1
        have z15 := q15.size
        replace hB := hid_mk (hB.out.keep hb1)
        replace hLr := hid_mk (hLr.out.to hb1)
        clear hb1 q14 z14
        have lO := blk14f (hB.out.at_ 0 rfl)
        go_wp2_with fail
        go_meet
        clear lO
        exact ⟨!zh, rfl, q15, hB, hLr, by rw [Hid, hGk.out]; simp⟩
      case rest =>
        clear hB q14 z14 hLr hGk hWR
        obtain ⟨g, rfl, q30, hB, hLr, hg⟩ := hcut
        obtain ⟨w30, hwc⟩ : ∃ x, x = wc := ⟨wc, rfl⟩
        subst hwc
        have z30 := q30.size
        cases g
        case true =>
          have h := hK4.out
          rw [hzb2.out, hg.out] at h
          cases h
        replace hyE := hid_mk (hyE.out hg.out)
        replace hyF := hid_mk (hyF.out hg.out)
        obtain ⟨gf, hgf⟩ : ∃ x, G.f = x := ⟨_, rfl⟩
        rw [hgf] at hyE hyF
        try rw [hgf]
        replace hgf := hid_mk hgf
        cases gf
        case false =>
          have hfi := hid_mk (hyE.out rfl)
          have hfin := hid_mk (hfi.out)
          have lX := blk14f (hB.out.at_ 4 rfl)
          have lY := blk14f (hB.out.at_ 2 rfl)
          have lM := blk11f (hB.out.at_ 3 rfl)
          go_upto_region 23 with fail
          clear lX lY lM
          refine regm (fun w' => AtN w' (w.heap.size) ⟨N.id, N.h, 0, M.fr, TT, N.commit, [], []⟩ ⟨a.R, a.V, ⟨none, 0, 0⟩, ⟨none, 0, 0⟩⟩) 6 6 [(0, 0), (0, 0), (0, 0), (6, 6), (9, 1), (31, 8)] (by exact (hB.out.at_ 4 rfl).atN) (fun hS0 hR => ?_)
          replace hB := hid_mk hB.out.drew
          have qd : Below w.heap.size w w30.drew := by go_grown
          obtain ⟨wd, hwd⟩ : ∃ x, w30.drew = x := ⟨_, rfl⟩
          rw [hwd] at hS0 hB  qd ⊢
          clear hwd q30 z30
          have zd := qd.size
          refine tkn (i := 0) hR hS0 (h := ?_)
          refine tkn (i := 1) hR hS0 (h := ?_)
          refine tkn (i := 2) hR hS0 (h := ?_)
          refine onem (i := 3) hR (h := fun K hK => ?_)
          go_simp
          refine (AnsT_any false (G.n) N.id M.fr N.h.t (w.heap.size) (w.heap.size + 1) _ ((hB.out.at_ 4 rfl).cell 0) ((hB.out.at_ 4 rfl).cell 1) ((hB.out.at_ 3 rfl).cell 1)).mono ?_
          rintro e wS ⟨gS, rfl, kS, hb1⟩
          have qS := (after (w := w) hb1 qd).1
          have hL1 : Hid (Mgs wS B (some ⟨gS, 0, none⟩) 1 [((fitM N.id M.fr N.h.t false G.n), nilMA)]) := hid_mk (mgs_one (M := (fitM N.id M.fr N.h.t false G.n)) kS rfl rfl rfl)
          replace hB := hid_mk (hB.out.keep hb1)
          clear hb1 kS
          have hS1 := (hB.out.at_ 4 rfl).atN
          refine hK.out _ _ (fun _ => hS1) ?_
          clear hK K hS0
          have hS0 := hS1
          clear hS1
          have lY := blk14f (hB.out.at_ 2 rfl)
          refine onem (i := 4) hR (h := fun K hK => ?_)
          go_simp
          clear lY
          replace hL1 := hid_mk (mgs_setN hL1.out (hB.out.at_ 2 rfl) (by dsimp only; omega) ⟨N.id, N.h, 0, M.fr, TT, N.commit, [], []⟩ ⟨a.R, a.V, ⟨none, 0, 0⟩, ⟨none, 0, 0⟩⟩)
          have qz := setN_below ⟨N.id, N.h, 0, M.fr, TT, N.commit, [], []⟩ ⟨a.R, a.V, ⟨none, 0, 0⟩, ⟨none, 0, 0⟩⟩ qS (by omega : w.heap.size ≤ w.heap.size + 1 + 1)
          have hBn := hB.out.setN 2 rfl ⟨N.id, N.h, 0, M.fr, TT, N.commit, [], []⟩ ⟨a.R, a.V, ⟨none, 0, 0⟩, ⟨none, 0, 0⟩⟩
          obtain ⟨wz, hwz⟩ : ∃ x, setN wS (w.heap.size + 1 + 1) ⟨N.id, N.h, 0, M.fr, TT, N.commit, [], []⟩ ⟨a.R, a.V, ⟨none, 0, 0⟩, ⟨none, 0, 0⟩⟩ = x := ⟨_, rfl⟩
          rw [hwz] at hBn  qz hL1
          replace hB : Hid (Bxs w.heap.size wz [⟨gO, 30, ndC ⟨N.id, ⟨N.h.t, N.h.v, G.l, N.h.s, N.h.vs⟩, 0, M.fr, TT, N.commit, [], []⟩ ⟨⟨LA, ln, Lc⟩, a.V, ⟨none, 0, 0⟩, ⟨none, 0, 0⟩⟩⟩, ⟨gL, 24, #[.int .i64 G.l.base, .int .i64 G.l.bt, .slice LA ln Lc]⟩, ⟨w.heap.size + 1 + 1, 30, ndC ⟨N.id, N.h, 0, M.fr, TT, N.commit, [], []⟩ ⟨a.R, a.V, ⟨none, 0, 0⟩, ⟨none, 0, 0⟩⟩⟩, ⟨w.heap.size + 1, 32, msC M b⟩, ⟨w.heap.size, 30, ndC ⟨N.id, N.h, 0, M.fr, TT, N.commit, [], []⟩ ⟨a.R, a.V, ⟨none, 0, 0⟩, ⟨none, 0, 0⟩⟩⟩]) := hid_mk hBn
          clear hBn
          unfold setN set14 at hwz
          rw [hwz]
          clear hwz
          have hS1 := (hB.out.at_ 4 rfl).atN
          refine hK.out _ _ (fun _ => hS1) ?_
          clear hK K hS0
          have hS0 := hS1
          clear hS1
          refine onem (i := 5) hR (h := fun K hK => ?_)
          go_simp
          have hS1 := (hB.out.at_ 4 rfl).atN
          refine hK.out _ _ (fun _ => hS1) ?_
          clear hK K hS0
          have hS0 := hS1
          clear hS1
          refine donem hR (h := ?_)
          try simp only [Act.put]
          have lY := blk14c (hB.out.at_ 2 rfl)
          go_wp2
          refine ends_ret hQ (v := .tuple #[.agg (ndC ⟨N.id, N.h, 0, M.fr, TT, N.commit, [], []⟩ ⟨a.R, a.V, ⟨none, 0, 0⟩, ⟨none, 0, 0⟩⟩), .slice (some ⟨gS, 0, none⟩) 1 1]) (by simp [results, Tryz.results33, go_sem, lY, ndC]) rfl ?_
          exact ⟨⟨a.R, a.V, ⟨none, 0, 0⟩, ⟨none, 0, 0⟩⟩, some ⟨gS, 0, none⟩, 1, 1, [((fitM N.id M.fr N.h.t false G.n), nilMA)], by rw [hfin.out.1]; rfl, by (rw [hfin.out.1]; exact hFok (hN.to qz)), hL1.out, by rw [hfin.out.2]; rfl, Nat.le_refl _, qz⟩
        have hfi := hid_mk (hyF.out rfl)
        have lX := blk14f (hB.out.at_ 4 rfl)
        have lM := blk11f (hB.out.at_ 3 rfl)
        have lO := blk14f (hB.out.at_ 0 rfl)
        go_upto_region 25 with fail
        clear lX lM lO
        have hBn : Bxs w.heap.size (w30.setCell ⟨gO, 11, none⟩ (.int .i64 (max N.commit (min M.commit G.n)))) [⟨gO, 30, ndC ⟨N.id, ⟨N.h.t, N.h.v, G.l, N.h.s, N.h.vs⟩, 0, M.fr, TT, max N.commit (min M.commit G.n), [], []⟩ ⟨⟨LA, ln, Lc⟩, a.V, ⟨none, 0, 0⟩, ⟨none, 0, 0⟩⟩⟩, ⟨gL, 24, #[.int .i64 G.l.base, .int .i64 G.l.bt, .slice LA ln Lc]⟩, ⟨w.heap.size + 1 + 1, 30, ndC zeroN nilA⟩, ⟨w.heap.size + 1, 32, msC M b⟩, ⟨w.heap.size, 30, ndC ⟨N.id, N.h, 0, M.fr, TT, N.commit, [], []⟩ ⟨a.R, a.V, ⟨none, 0, 0⟩, ⟨none, 0, 0⟩⟩⟩] := (hB.out.set 0 rfl 11 (.int .i64 (max N.commit (min M.commit G.n))))
        have q31 := (q30.setCell (p := ⟨gO, 11, none⟩) (by dsimp only; omega) (.int .i64 (max N.commit (min M.commit G.n))))
        have hLrn : Recs (w30.setCell ⟨gO, 11, none⟩ (.int .i64 (max N.commit (min M.commit G.n)))) B LA ln G.l.rs := (Reads.far hLr.out (hB.out.at_ 0 rfl) (by dsimp only; omega) (by dsimp only; decide) 11 (.int .i64 (max N.commit (min M.commit G.n))))
        obtain ⟨w31, hwz⟩ : ∃ x, (w30.setCell ⟨gO, 11, none⟩ (.int .i64 (max N.commit (min M.commit G.n)))) = x := ⟨_, rfl⟩
        rw [hwz] at hBn q31 hLrn
        try rw [hwz]
        clear hwz
        replace hB := hid_mk hBn
        clear hBn
        replace hLr := hid_mk hLrn
        clear hLrn
        have z31 := q31.size
        clear q30 z30
        have hfin := hid_mk (hfi.out)
        have lX := blk14f (hB.out.at_ 4 rfl)
        have lY := blk14f (hB.out.at_ 2 rfl)
        have lM := blk11f (hB.out.at_ 3 rfl)
        have lO := blk14f (hB.out.at_ 0 rfl)
        go_upto_region 25 with fail
        clear lX lY lM lO
        refine regm (fun w' => AtN w' (gO) ⟨N.id, ⟨N.h.t, N.h.v, G.l, N.h.s, N.h.vs⟩, 0, M.fr, TT, max N.commit (min M.commit G.n), [], []⟩ ⟨⟨LA, ln, Lc⟩, a.V, ⟨none, 0, 0⟩, ⟨none, 0, 0⟩⟩) 6 6 [(0, 0), (0, 0), (0, 0), (6, 6), (9, 1), (31, 8)] (by exact (hB.out.at_ 0 rfl).atN) (fun hS0 hR => ?_)
        replace hB := hid_mk hB.out.drew
        replace hLr := hid_mk (hLr.out.to (show Below w31.heap.size w31 w31.drew by go_grown))
        have qd : Below w.heap.size w w31.drew := by go_grown
        obtain ⟨wd, hwd⟩ : ∃ x, w31.drew = x := ⟨_, rfl⟩
        rw [hwd] at hS0 hB hLr qd ⊢
        clear hwd q31 z31
        have zd := qd.size
        refine tkn (i := 0) hR hS0 (h := ?_)
        refine tkn (i := 1) hR hS0 (h := ?_)
        refine tkn (i := 2) hR hS0 (h := ?_)
        refine onem (i := 3) hR (h := fun K hK => ?_)
        go_simp
        refine (AnsT_any true (G.n) N.id M.fr N.h.t (w.heap.size) (w.heap.size + 1) _ ((hB.out.at_ 4 rfl).cell 0) ((hB.out.at_ 4 rfl).cell 1) ((hB.out.at_ 3 rfl).cell 1)).mono ?_
        rintro e wS ⟨gS, rfl, kS, hb1⟩
        have qS := (after (w := w) hb1 qd).1
        have hL1 : Hid (Mgs wS B (some ⟨gS, 0, none⟩) 1 [((fitM N.id M.fr N.h.t true G.n), nilMA)]) := hid_mk (mgs_one (M := (fitM N.id M.fr N.h.t true G.n)) kS rfl rfl rfl)
        replace hB := hid_mk (hB.out.keep hb1)
        replace hLr := hid_mk (hLr.out.to hb1)
        clear hb1 kS
        have hS1 := (hB.out.at_ 0 rfl).atN
        refine hK.out _ _ (fun _ => hS1) ?_
        clear hK K hS0
        have hS0 := hS1
        clear hS1
        have lY := blk14f (hB.out.at_ 2 rfl)
        refine onem (i := 4) hR (h := fun K hK => ?_)
        go_simp
        clear lY
        replace hL1 := hid_mk (mgs_setN hL1.out (hB.out.at_ 2 rfl) (by dsimp only; omega) ⟨N.id, ⟨N.h.t, N.h.v, G.l, N.h.s, N.h.vs⟩, 0, M.fr, TT, max N.commit (min M.commit G.n), [], []⟩ ⟨⟨LA, ln, Lc⟩, a.V, ⟨none, 0, 0⟩, ⟨none, 0, 0⟩⟩)
        have qz := setN_below ⟨N.id, ⟨N.h.t, N.h.v, G.l, N.h.s, N.h.vs⟩, 0, M.fr, TT, max N.commit (min M.commit G.n), [], []⟩ ⟨⟨LA, ln, Lc⟩, a.V, ⟨none, 0, 0⟩, ⟨none, 0, 0⟩⟩ qS (by omega : w.heap.size ≤ w.heap.size + 1 + 1)
        replace hLr := hid_mk (Reads.kr hLr.out (.inr (.inl rfl)) (setN_kr (B := B) ⟨N.id, ⟨N.h.t, N.h.v, G.l, N.h.s, N.h.vs⟩, 0, M.fr, TT, max N.commit (min M.commit G.n), [], []⟩ ⟨⟨LA, ln, Lc⟩, a.V, ⟨none, 0, 0⟩, ⟨none, 0, 0⟩⟩ (hB.out.at_ 2 rfl) (by dsimp only; omega)))
        have hBn := hB.out.setN 2 rfl ⟨N.id, ⟨N.h.t, N.h.v, G.l, N.h.s, N.h.vs⟩, 0, M.fr, TT, max N.commit (min M.commit G.n), [], []⟩ ⟨⟨LA, ln, Lc⟩, a.V, ⟨none, 0, 0⟩, ⟨none, 0, 0⟩⟩
        obtain ⟨wz, hwz⟩ : ∃ x, setN wS (w.heap.size + 1 + 1) ⟨N.id, ⟨N.h.t, N.h.v, G.l, N.h.s, N.h.vs⟩, 0, M.fr, TT, max N.commit (min M.commit G.n), [], []⟩ ⟨⟨LA, ln, Lc⟩, a.V, ⟨none, 0, 0⟩, ⟨none, 0, 0⟩⟩ = x := ⟨_, rfl⟩
        rw [hwz] at hBn hLr qz hL1
        replace hB : Hid (Bxs w.heap.size wz [⟨gO, 30, ndC ⟨N.id, ⟨N.h.t, N.h.v, G.l, N.h.s, N.h.vs⟩, 0, M.fr, TT, max N.commit (min M.commit G.n), [], []⟩ ⟨⟨LA, ln, Lc⟩, a.V, ⟨none, 0, 0⟩, ⟨none, 0, 0⟩⟩⟩, ⟨gL, 24, #[.int .i64 G.l.base, .int .i64 G.l.bt, .slice LA ln Lc]⟩, ⟨w.heap.size + 1 + 1, 30, ndC ⟨N.id, ⟨N.h.t, N.h.v, G.l, N.h.s, N.h.vs⟩, 0, M.fr, TT, max N.commit (min M.commit G.n), [], []⟩ ⟨⟨LA, ln, Lc⟩, a.V, ⟨none, 0, 0⟩, ⟨none, 0, 0⟩⟩⟩, ⟨w.heap.size + 1, 32, msC M b⟩, ⟨w.heap.size, 30, ndC ⟨N.id, N.h, 0, M.fr, TT, N.commit, [], []⟩ ⟨a.R, a.V, ⟨none, 0, 0⟩, ⟨none, 0, 0⟩⟩⟩]) := hid_mk hBn
        clear hBn
        unfold setN set14 at hwz
        rw [hwz]
        clear hwz
        have hS1 := (hB.out.at_ 0 rfl).atN
        refine hK.out _ _ (fun _ => hS1) ?_
        clear hK K hS0
        have hS0 := hS1
        clear hS1
        refine onem (i := 5) hR (h := fun K hK => ?_)
        go_simp
        have hS1 := (hB.out.at_ 0 rfl).atN
        refine hK.out _ _ (fun _ => hS1) ?_
        clear hK K hS0
        have hS0 := hS1
        clear hS1
        refine donem hR (h := ?_)
        try simp only [Act.put]
        have lY := blk14c (hB.out.at_ 2 rfl)
        go_wp2
        refine ends_ret hQ (v := .tuple #[.agg (ndC ⟨N.id, ⟨N.h.t, N.h.v, G.l, N.h.s, N.h.vs⟩, 0, M.fr, TT, max N.commit (min M.commit G.n), [], []⟩ ⟨⟨LA, ln, Lc⟩, a.V, ⟨none, 0, 0⟩, ⟨none, 0, 0⟩⟩), .slice (some ⟨gS, 0, none⟩) 1 1]) (by simp [results, Tryz.results33, go_sem, lY, ndC]) rfl ?_
        exact ⟨⟨⟨LA, ln, Lc⟩, a.V, ⟨none, 0, 0⟩, ⟨none, 0, 0⟩⟩, some ⟨gS, 0, none⟩, 1, 1, [((fitM N.id M.fr N.h.t true G.n), nilMA)], by rw [hfin.out.1]; rfl, by (rw [hfin.out.1]; exact ⟨hLr.out, hlc, by dsimp only; omega, hN.vs.to qz, hN.vc, hN.vb, hN.sb, Reads.none_, Nat.le_refl _, by dsimp only; omega, Reads.none_, Nat.le_refl _, by dsimp only; omega⟩), hL1.out, by rw [hfin.out.2]; rfl, Nat.le_refl _, qz⟩
theorem ETake_any (N : Nd) (a : NdA) (M : Ms) (b : MsA) (d : Int) (w : World) {B : Nat} (hBw : B ≤ w.heap.size) (hN : NdOk w B N a) (hM : MsOk w B M b) (ht : Tab w) :
    Calls Tryz.prog 33 #[nodeV N a, msgV M b, .int .i64 d] w (RetNMs w B (takeN N M d) (takeL N M)) := by
  by_cases h : toldE N M 3 = true ∧ M.term = N.h.t ∧ ¬ N.role = 2
  · cases h4 : (badR N M.index M.rs || !(takeOk N M)) with
    | true => exact ETake2_any N a M b d w hBw hN hM ht h.1 h.2.1 h.2.2 h4
    | false => exact ETake3_any N a M b d w hBw hN hM ht h.1 h.2.1 h.2.2 h4
  · exact ETake1_any N a M b d w hBw hN hM ht h
end Go.Proofs.YtncdjmpdbinanaaGreatDoor
