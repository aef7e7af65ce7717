/-
  WHAT IS PROVED HERE: what the reference's Install hands back of a node that may be. Conditions: the slices are of at most 2^47 bytes; the library's table stands.
-/
import Derived.Test.YtncdjmpdbinanaaGreatDoorZRto
import Derived.Test.YtncdjmpdbinanaaGreatDoorZRsr
import Derived.Test.YtncdjmpdbinanaaGreatDoorZWal3
import Derived.Test.YtncdjmpdbinanaaGreatDoorZGKj1
import Derived.Test.YtncdjmpdbinanaaGreatDoorZGNd
import Derived.Deep.DeepCutAuto
namespace Go.Proofs.YtncdjmpdbinanaaGreatDoor
open Go.RowKit

theorem told_to {N : Nd} {M : Ms} {k : Int} (h : rightN N = true) : toldC N M k = (toM N M k && decide (M.term ≤ N.h.t)) := by
  unfold toldC toM
  rw [h]
  cases mayM M <;> cases (M.kind == k) <;> cases (M.to == N.id) <;> simp
set_option maxRecDepth 100000 in
set_option maxHeartbeats 1600000 in
theorem refAdoptC_any (l : Lg) (at' term : Int) (A : Option Addr) (n cap : Nat) (w : World) {B : Nat} (hB : B ≤ w.heap.size) (hm : n ≤ 4398046511103) (_hcap : n ≤ cap) (hlt : l.base < at') (h : Recs w B A n l.rs) (hr : rightJ l = true) (hr2 : rightJ ⟨at', term, []⟩ = true) :
    Calls Tryz.prog 68 #[logV l A n cap, .int .i64 at', .int .i64 term] w (RetLog B w (adoptJ l at' term)) := by
  have hbd := right_bounds hr
  have hbd2 := right_bounds hr2
  dsimp only at hbd2
  have hX := hid_mk ((Blk.new w 24 #[.int .i64 l.base, .int .i64 l.bt, .slice A n cap]).alloc (.cells #[.int .i64 0, .int .i64 0, .slice none 0 0] 24))
  have hY := hid_mk (Blk.new (w.alloc (.cells #[.int .i64 l.base, .int .i64 l.bt, .slice A n cap] 24)) 24 #[.int .i64 0, .int .i64 0, .slice none 0 0])
  have hY2 := hY.out
  rw [World.size_alloc] at hY2
  replace hY2 := hid_mk hY2
  have g : ¬ at' ≤ l.base := by omega
  cases hta : termJ l at' with
  | none =>
    have hz : Hid (adoptJ l at' term = ⟨at', term, []⟩) := by unfold Hid adoptJ; rw [hr, hr2, hta]; simp [g]
    replace hta := hid_mk hta
    have ht' : ((-1 : Int) == term) = false := by simp; omega
    replace hr := hid_mk hr
    replace hr2 := hid_mk hr2
    rw [hz.out, logV_eq]
    go_enter Tryz.func68, Tryz.ntmps68
    go_wp2_with fail
    try rw [← logV_eq]
    refine (refTerm_any l at' A n cap _ (by omega) (h.to (by go_grown)) hbd.1 hbd.2.1).mono ?_
    rw [hta.out, Option.getD_none]
    rintro e w1 ⟨rfl, hb⟩
    have q1 := (after (w := w) hb (by go_grown)).1
    replace hX := hid_mk (hX.out.keep (after hb (by go_grown)).1)
    replace hY := hid_mk (hY.out.keep (after hb (by go_grown)).1)
    obtain ⟨hgx, x0, x1, x2⟩ := blk3 hX.out
    obtain ⟨hg, y0, y1, y2, z0, z1, z2⟩ := blk3f hY.out
    rw [World.size_alloc] at hg y0 y1 y2 z0 z1 z2
    have hs1 := hb.size; try simp only [World.size_alloc] at hs1; clear hb
    go_wp2
    refine bodyPost_ret (v := .agg #[.int .i64 at', .int .i64 term, .slice none 0 0]) (by simp [results, Tryz.results68, go_sem, y0, y1, y2]) rfl ?_
    exact ⟨none, 0, 0, rfl, Reads.none_, Nat.le_refl _, by unfold maxLen; omega, set3_below _ _ _ q1 (by simp)⟩
  | some t =>
    by_cases ht : t = term
    case neg =>
      have ht' : (t == term) = false := by simpa using ht
      have hz : Hid (adoptJ l at' term = ⟨at', term, []⟩) := by unfold Hid adoptJ; rw [hr, hr2, hta]; simp [g, ht]
      replace hta := hid_mk hta
      replace ht := hid_mk ht
      replace hr := hid_mk hr
      replace hr2 := hid_mk hr2
      rw [hz.out, logV_eq]
      go_enter Tryz.func68, Tryz.ntmps68
      go_wp2_with fail
      try rw [← logV_eq]
      refine (refTerm_any l at' A n cap _ (by omega) (h.to (by go_grown)) hbd.1 hbd.2.1).mono ?_
      rw [hta.out, Option.getD_some]
      rintro e w1 ⟨rfl, hb⟩
      have q1 := (after (w := w) hb (by go_grown)).1
      replace hX := hid_mk (hX.out.keep (after hb (by go_grown)).1)
      replace hY := hid_mk (hY.out.keep (after hb (by go_grown)).1)
      obtain ⟨hgx, x0, x1, x2⟩ := blk3 hX.out
      obtain ⟨hg, y0, y1, y2, z0, z1, z2⟩ := blk3f hY.out
      rw [World.size_alloc] at hg y0 y1 y2 z0 z1 z2
      have hs1 := hb.size; try simp only [World.size_alloc] at hs1; clear hb
      go_wp2
      refine bodyPost_ret (v := .agg #[.int .i64 at', .int .i64 term, .slice none 0 0]) (by simp [results, Tryz.results68, go_sem, y0, y1, y2]) rfl ?_
      exact ⟨none, 0, 0, rfl, Reads.none_, Nat.le_refl _, by unfold maxLen; omega, set3_below _ _ _ q1 (by simp)⟩
    subst ht
    have hz : Hid (adoptJ l at' t = ⟨at', t, l.rs.drop (at' - l.base).toNat⟩) := by unfold Hid adoptJ compactJ; rw [hr, hr2, hta]; simp [g]
    have hta2 := hid_mk hta
    replace hta := hid_mk hta
    replace hr := hid_mk hr
    replace hr2 := hid_mk hr2
    rw [hz.out, logV_eq]
    go_enter Tryz.func68, Tryz.ntmps68
    go_wp2_with fail
    try rw [← logV_eq]
    refine (refTerm_any l at' A n cap _ (by omega) (h.to (by go_grown)) hbd.1 hbd.2.1).mono ?_
    rw [hta.out, Option.getD_some]
    rintro e w1 ⟨rfl, hb⟩
    have q1 := (after (w := w) hb (by go_grown)).1
    replace hX := hid_mk (hX.out.keep (after hb (by go_grown)).1)
    replace hY := hid_mk (hY.out.keep (after hb (by go_grown)).1)
    obtain ⟨hgx, x0, x1, x2⟩ := blk3 hX.out
    obtain ⟨hg, y0, y1, y2, z0, z1, z2⟩ := blk3f hY.out
    rw [World.size_alloc] at hg y0 y1 y2 z0 z1 z2
    have hs1 := hb.size; try simp only [World.size_alloc] at hs1; clear hb
    go_wp2_with fail
    try rw [← logV_eq]
    refine (refFrom_any l at' t A n cap _ (B := B) (by omega) hm (h.to (by go_grown)) hbd.1 hbd.2.1 hta2.out).mono ?_
    rintro e w2 ⟨A3, n3, c3, rfl, hR3, h31, h32, hb⟩
    have q2 := (after (w := w) hb (by go_grown)).1
    replace hY := hid_mk (hY.out.keep (after hb (by go_grown)).1)
    clear hgx x0 x1 x2 hg y0 y1 y2 z0 z1 z2
    obtain ⟨hg, y0, y1, y2, z0, z1, z2⟩ := blk3f hY.out
    rw [World.size_alloc] at hg y0 y1 y2 z0 z1 z2
    have hs2 := hb.size; try simp only [World.size_alloc] at hs2; clear hb
    unfold logV
    dsimp only
    go_wp2
    have hY3 := hY.out
    rw [World.size_alloc] at hY3
    refine bodyPost_ret (v := .agg #[.int .i64 at', .int .i64 t, .slice A3 n3 c3]) (by simp [results, Tryz.results68, go_sem, y0, y1, y2]) rfl ?_
    exact ⟨A3, n3, c3, rfl, set3_reads hY3 _ _ _ (by omega) (by decide) hR3, h31, h32, set3_below _ _ _ q2 (by simp)⟩
set_option maxRecDepth 100000 in
set_option maxHeartbeats 12800000 in
theorem RInst1_any (N : Nd) (a : NdA) (M : Ms) (b : MsA) (d : Int) (w : World) {B : Nat} (_hBw : B ≤ w.heap.size) (hzr : rightN N = true) (hN : NdOk w B N a) (hMs : MsOk w B M b) (_ht : Tab w) (hK : ¬ (toM N M 5 = true ∧ M.term = N.h.t ∧ ¬ N.role = 2)) :
    Calls Tryz.prog 21 #[nodeV N a, msgV M b, .int .i64 d] w fun e w' => RetNL w B (instN N M d) (instL N M) e w' := by
  obtain ⟨z, hz⟩ : ∃ z, toM N M 5 = z := ⟨_, rfl⟩
  rw [hz] at hK
  replace hK := hid_mk hK
  obtain ⟨zh, hzh⟩ : ∃ z, rightH (instH N M) = z := ⟨_, rfl⟩
  obtain ⟨la, hla⟩ : ∃ x, lastJ N.h.l = x := ⟨_, rfl⟩
  obtain ⟨AJ, hAJ⟩ : ∃ x, adoptJ N.h.l M.index M.lterm = x := ⟨_, rfl⟩
  have hj : Hid (rightJ N.h.l = true) := (right_n hzr).1
  have hcb := commit_bounds hzr
  have hbc : N.h.l.base ≤ N.commit := by omega
  obtain ⟨N', hN'⟩ : ∃ z, instN N M d = z := ⟨_, rfl⟩
  obtain ⟨L, hL⟩ : ∃ z, instL N M = z := ⟨_, rfl⟩
  obtain ⟨F, hF⟩ : ∃ x, followN N M.fr d = x := ⟨_, rfl⟩
  obtain ⟨aF, haF⟩ : ∃ x, (⟨a.R, a.V, ⟨none, 0, 0⟩, ⟨none, 0, 0⟩⟩ : NdA) = x := ⟨_, rfl⟩
  have hNo1 : Hid (z = false → N' = N ∧ L = []) := fun e => by
    have hp : toldC N M 5 = false := by rw [told_to hzr, hz, e]; rfl
    rw [← hN', ← hL]
    exact told_not hp
  have hNo2 : Hid (N.h.t < M.term → N' = N ∧ L = []) := fun e => by
    have hp : toldC N M 5 = false := by rw [told_to hzr, show decide (M.term ≤ N.h.t) = false by simpa using e]; cases toM N M 5 <;> rfl
    rw [← hN', ← hL]
    exact told_not hp
  have hYes : Hid (z = true → M.term ≤ N.h.t →
      rightJ ⟨M.index, M.lterm, []⟩ = true ∧ (M.term < N.h.t → N' = N ∧ L = [fitM N.id M.fr N.h.t false la]) ∧ (N.h.t ≤ M.term → N.role = 2 → N' = N ∧ L = []) ∧
      (N.h.t ≤ M.term → ¬ N.role = 2 → M.index ≤ F.commit → N' = F ∧ L = [fitM N.id M.fr N.h.t true F.commit]) ∧
      (N.h.t ≤ M.term → ¬ N.role = 2 → F.commit < M.index → zh = false → N' = F ∧ L = [fitM N.id M.fr N.h.t false la]) ∧
      (N.h.t ≤ M.term → ¬ N.role = 2 → F.commit < M.index → zh = true → N' = ⟨F.id, ⟨F.h.t, F.h.v, AJ, M.s, M.vs⟩, F.role, F.lead, F.timer, M.index, F.got, F.ps⟩ ∧ L = [fitM N.id M.fr N.h.t true M.index])) := fun e e2 => by
    have hp : toldC N M 5 = true := by rw [told_to hzr, hz, e]; simpa using e2
    refine ⟨right_at (told_parts hp).2.1 (told_parts hp).2.2.1, ?_⟩
    rw [← hN', ← hL, ← hla, ← hzh, ← hAJ, ← hF]
    exact inst_say hp
  rw [hN', hL]
  have hFc : F.commit = N.commit := by rw [← hF]; rfl
  have hFh : F.h = N.h := by rw [← hF]; rfl
  have hFok : ∀ {w' : World}, NdOk w' B N a → NdOk w' B F aF := fun h => by
    rw [← hF, ← haF]
    exact ⟨h.recs, h.rc, h.rb, h.vs, h.vc, h.vb, h.sb, Reads.none_, Nat.le_refl _, by dsimp only; omega, Reads.none_, Nat.le_refl _, by dsimp only; omega⟩
  have haR : aF.R = a.R := by rw [← haF]
  have hAL : AJ.rs.length ≤ N.h.l.rs.length := by rw [← hAJ]; exact adopt_lenK _ _ _
  have hAD := fun (w : World) (h0 : B ≤ w.heap.size) (h1 : N.h.l.base < M.index) (h2 : rightJ ⟨M.index, M.lterm, []⟩ = true) (k1 : Recs w B a.R.A a.R.n N.h.l.rs) => refAdoptC_any N.h.l M.index M.lterm a.R.A a.R.n a.R.c w h0 (by have := hN.rb; omega) hN.rc h1 k1 hj.out h2
  rw [hAJ] at hAD
  unfold instH at hzh
  rw [hAJ] at hzh
  have hWR := fun (R V : Slc) (w : World) (k1 : R.n ≤ 140737488355328) (k2 : V.n ≤ 140737488355328) (k3 : Recs w B R.A R.n AJ.rs) (k4 : Ints w B V.A V.n M.vs) (k5 : Tab w) => HRight_any ⟨N.h.t, N.h.v, AJ, M.s, M.vs⟩ R V w k1 k2 k3 k4 k5
  rw [hzh] at hWR
  have hTo := fun (w : World) (h : MsOk w B M b) => RTo_any N a M b 5 w h
  rw [hz] at hTo
  have hLA := fun (w : World) (h : NdOk w B N a) => RLastN_any N a w h hj.out
  rw [hla] at hLA
  have hFo := fun (w : World) => RFollow_any N a M.fr d w
  rw [hF, haF] at hFo
  rw [← hFh] at hAD hWR
  rw [← haR] at hAD
  replace hFc := hid_mk hFc
  replace hFh := hid_mk hFh
  replace haR := hid_mk haR
  clear hN' hL hzr hcb hz hzh hla hAJ hF haF
  have hlN := hN.recs.len
  have hnn : a.R.n * 32 ≤ 140737488351232 := hN.rb
  unfold nodeV at hFo hLA hTo ⊢
  unfold msgV at hTo ⊢
  obtain ⟨w0, hw0⟩ : ∃ x, (((w.alloc (.cells (ndC N a) 30)).alloc (.cells (msC M b) 32)).alloc (.cells (ndC zeroN nilA) 30)) = x := ⟨_, rfl⟩
  have hB : Hid (Bxs w.heap.size w0 [⟨w.heap.size + 1 + 1, 30, ndC zeroN nilA⟩, ⟨w.heap.size + 1, 32, msC M b⟩, ⟨w.heap.size, 30, ndC N a⟩]) := by
    rw [← hw0]
    exact ((((Bxs.nil w.heap.size w).add_ rfl (by omega) 30 (ndC N a)).add_ (by simp) (by omega) 32 (msC M b)).add_ (by simp) (by omega) 30 (ndC zeroN nilA))
  have q0 : Below w.heap.size w w0 := by rw [← hw0]; go_grown
  have z0 := q0.size
  dsimp only [ndC, msC, zeroN, nilA, zeroM, nilMA] at hw0
  refine calls_of_wpQ Tryz.func21 rfl ?_
  intro Q hQ
  simp only [Tryz.ntmps21, List.size_toArray, List.length_cons, List.length_nil, Nat.reduceAdd, Nat.reduceSub, Array.replicate_succ, Array.replicate_zero, List.push_toArray, List.append_toArray, List.nil_append, List.cons_append]
  go_upto_region 1 with fail
  try rw [hw0]
  clear hw0
  have lX := blk14c (hB.out.at_ 2 rfl)
  have lM := blk11v (hB.out.at_ 1 rfl)
  go_wp2_with fail
  clear lX lM
  refine (hTo _ (hMs.to q0)).mono ?_
  rintro e w1 ⟨rfl, hb1⟩
  have q1 := (after (w := w) hb1 q0).1
  have z1 := q1.size
  replace hB := hid_mk (hB.out.keep hb1)
  clear hb1 q0 z0
  cases z
  case false =>
    have hno := hid_mk (hNo1.out rfl)
    have lX := blk14f (hB.out.at_ 2 rfl)
    have lY := blk14f (hB.out.at_ 0 rfl)
    have lM := blk11f (hB.out.at_ 1 rfl)
    go_wp2
    clear lX lY lM
    have kf := setN_blk (N := N) (a := a) (hB.out.at_ 0 rfl)
    unfold setN set14 at kf
    have rs := blk14c kf
    refine ends_ret hQ (v := .tuple #[.agg (ndC N a), .slice none 0 0]) (by simp [results, Tryz.results21, go_sem, rs, ndC]) rfl ?_
    exact ⟨a, none, 0, 0, by rw [hno.out.1]; rfl, by rw [hno.out.1]; exact hN.to (setN_below N a q1 (by omega)), by rw [hno.out.2]; exact mgs_nil, Nat.le_refl _, setN_below N a q1 (by omega)⟩
  by_cases g0 : N.h.t < M.term
  case pos =>
    have g0b : decide (N.h.t < M.term) = true := by simpa using g0
    have g0n := hNo2.out g0
    replace g0 := hid_mk g0
    have hno := hid_mk (g0n)
    have lX := blk14f (hB.out.at_ 2 rfl)
    have lY := blk14f (hB.out.at_ 0 rfl)
    have lM := blk11f (hB.out.at_ 1 rfl)
    go_wp2
    clear lX lY lM
    have kf := setN_blk (N := N) (a := a) (hB.out.at_ 0 rfl)
    unfold setN set14 at kf
    have rs := blk14c kf
    refine ends_ret hQ (v := .tuple #[.agg (ndC N a), .slice none 0 0]) (by simp [results, Tryz.results21, go_sem, rs, ndC]) rfl ?_
    exact ⟨a, none, 0, 0, by rw [hno.out.1]; rfl, by rw [hno.out.1]; exact hN.to (setN_below N a q1 (by omega)), by rw [hno.out.2]; exact mgs_nil, Nat.le_refl _, setN_below N a q1 (by omega)⟩
  have g0b : decide (N.h.t < M.term) = false := by simpa using g0
  replace g0 : M.term ≤ N.h.t := by omega
  obtain ⟨hsr, hyA, hyB, hyC, hyD, hyE⟩ := hYes.out rfl g0
  replace hsr := hid_mk hsr
  replace hyA := hid_mk hyA
  replace hyB := hid_mk hyB
  replace hyC := hid_mk hyC
  replace hyD := hid_mk hyD
  replace hyE := hid_mk hyE
  clear hYes hNo1 hNo2 hTo
  replace g0 := hid_mk g0
  by_cases g1 : M.term = N.h.t
  case neg =>
    have g1b : (M.term == N.h.t) = false := by simpa using g1
    have g1c : M.term < N.h.t := by have := g0.out; omega
    have hfi := hid_mk (hyA.out g1c)
    replace g1c := hid_mk g1c
    replace g1 := hid_mk g1
    have lX := blk14f (hB.out.at_ 2 rfl)
    have lM := blk11f (hB.out.at_ 1 rfl)
    go_upto_region 3 with fail
    clear lX lM
    go_cut [8] from 36 (fun p8 wx => ∃ gA : Nat, p8 = .pointer (some ⟨gA, 0, none⟩) ∧ w.heap.size ≤ gA ∧ Below w.heap.size w wx ∧ Hid (Bxs w.heap.size wx [⟨gA, 32, msC (fitM N.id M.fr N.h.t false la) nilMA⟩, ⟨w.heap.size + 1 + 1, 30, ndC zeroN nilA⟩, ⟨w.heap.size + 1, 32, msC M b⟩, ⟨w.heap.size, 30, ndC N a⟩]))
    case first =>
      refine regm (fun w' => AtN w' (w.heap.size) N a ∧ w'.cell? ⟨w.heap.size + 1, 1, none⟩ = some (.int .i64 M.fr)) 12 12 [(0, 0), (1, 1), (0, 0), (4, 4), (0, 0), (16, 16), (32, 32), (0, 0), (128, 128), (330, 330), (0, 0), (2047, 1536)] (by exact And.intro ((hB.out.at_ 2 rfl).atN) ((hB.out.at_ 1 rfl).cell 1)) (fun hS0 hR => ?_)
      replace hB := hid_mk hB.out.drew
      have qd : Below w.heap.size w w1.drew := by go_grown
      obtain ⟨wd, hwd⟩ : ∃ x, w1.drew = x := ⟨_, rfl⟩
      rw [hwd] at hS0 hB  qd ⊢
      clear hwd q1 z1
      have zd := qd.size
      refine tkn (i := 0) hR hS0 (h := ?_)
      refine tkn (i := 1) hR hS0 (h := ?_)
      refine tkn (i := 2) hR hS0 (h := ?_)
      refine tkn (i := 3) hR hS0 (h := ?_)
      refine tkn (i := 4) hR hS0 (h := ?_)
      simp only [Act.put]
      refine tkn (i := 5) hR hS0 (h := ?_)
      refine tkn (i := 6) hR hS0 (h := ?_)
      refine tkn (i := 7) hR hS0 (h := ?_)
      refine twom (i := 8) (j := 10) hR (h := fun K hK => ?_) (h' := fun K hK => ?_)
      · go_simp
        refine (hLA _ (hN.to qd)).mono ?_
        rintro e wL ⟨rfl, hb1⟩
        have qL := (after (w := w) hb1 qd).1
        replace hB := hid_mk (hB.out.keep hb1)
        clear hb1
        have hS1 := And.intro ((hB.out.at_ 2 rfl).atN) ((hB.out.at_ 1 rfl).cell 1)
        refine hK.out _ _ (fun _ => hS1) ?_
        clear hK K hS0
        have hS0 := hS1
        clear hS1
        refine tkn (i := 9) hR hS0 (h := ?_)
        refine onem (i := 10) hR (h := fun K hK => ?_)
        go_simp
        obtain ⟨gA, hgA⟩ : ∃ g, wL.heap.size = g := ⟨_, rfl⟩
        have lgA : w.heap.size ≤ gA := by rw [← hgA]; exact qL.size
        replace hB := hid_mk (hB.out.add_ hgA lgA 32 (msC zeroM nilMA))
        have qA := qL.alloc qL.size (.cells (msC zeroM nilMA) 32)
        obtain ⟨wA, hwA⟩ : ∃ x, wL.alloc (.cells (msC zeroM nilMA) 32) = x := ⟨_, rfl⟩
        rw [hwA] at hB  qA
        dsimp only [ndC, msC, zeroN, nilA, zeroM, nilMA] at hwA
        rw [hwA, hgA]
        clear hwA hgA
        have hS1 := And.intro ((hB.out.at_ 3 rfl).atN) ((hB.out.at_ 2 rfl).cell 1)
        refine hK.out _ _ (fun _ => hS1) ?_
        clear hK K hS0
        have hS0 := hS1
        clear hS1
        have lA := blk11f (hB.out.at_ 0 rfl)
        refine onem (i := 11) hR (h := fun K hK => ?_)
        go_simp
        clear lA
        have qz := setM_below (fitM N.id M.fr N.h.t false la) nilMA qA lgA
        have hBn := hB.out.setM 0 rfl (fitM N.id M.fr N.h.t false la) nilMA
        obtain ⟨wz, hwz⟩ : ∃ x, setM wA gA (fitM N.id M.fr N.h.t false la) nilMA = x := ⟨_, rfl⟩
        rw [hwz] at hBn qz
        replace hB : Hid (Bxs w.heap.size wz [⟨gA, 32, msC (fitM N.id M.fr N.h.t false la) nilMA⟩, ⟨w.heap.size + 1 + 1, 30, ndC zeroN nilA⟩, ⟨w.heap.size + 1, 32, msC M b⟩, ⟨w.heap.size, 30, ndC N a⟩]) := hid_mk hBn
        clear hBn
        unfold setM st11 fitM nilMA at hwz
        dsimp only at hwz
        rw [hwz]
        clear hwz
        have hS1 := And.intro ((hB.out.at_ 3 rfl).atN) ((hB.out.at_ 2 rfl).cell 1)
        refine hK.out _ _ (fun _ => hS1) ?_
        clear hK K hS0
        have hS0 := hS1
        clear hS1
        refine donem hR (h := ?_)
        try simp only [Act.put]
        go_wp2_with fail
        go_meet
        exact ⟨gA, rfl, lgA, qz, hB⟩
      · go_simp
        obtain ⟨gA, hgA⟩ : ∃ g, wd.heap.size = g := ⟨_, rfl⟩
        have lgA : w.heap.size ≤ gA := by rw [← hgA]; exact qd.size
        replace hB := hid_mk (hB.out.add_ hgA lgA 32 (msC zeroM nilMA))
        have qA := qd.alloc qd.size (.cells (msC zeroM nilMA) 32)
        obtain ⟨wA, hwA⟩ : ∃ x, wd.alloc (.cells (msC zeroM nilMA) 32) = x := ⟨_, rfl⟩
        rw [hwA] at hB  qA
        dsimp only [ndC, msC, zeroN, nilA, zeroM, nilMA] at hwA
        rw [hwA, hgA]
        clear hwA hgA
        have hS1 := And.intro ((hB.out.at_ 3 rfl).atN) ((hB.out.at_ 2 rfl).cell 1)
        refine hK.out _ _ (fun _ => hS1) ?_
        clear hK K hS0
        have hS0 := hS1
        clear hS1
        refine onem (i := 8) hR (h := fun K hK => ?_)
        go_simp
        refine (hLA _ (hN.to qA)).mono ?_
        rintro e wL ⟨rfl, hb1⟩
        have qL := (after (w := w) hb1 qA).1
        replace hB := hid_mk (hB.out.keep hb1)
        clear hb1
        have hS1 := And.intro ((hB.out.at_ 3 rfl).atN) ((hB.out.at_ 2 rfl).cell 1)
        refine hK.out _ _ (fun _ => hS1) ?_
        clear hK K hS0
        have hS0 := hS1
        clear hS1
        refine tkn (i := 9) hR hS0 (h := ?_)
        have lA := blk11f (hB.out.at_ 0 rfl)
        refine onem (i := 11) hR (h := fun K hK => ?_)
        go_simp
        clear lA
        have qz := setM_below (fitM N.id M.fr N.h.t false la) nilMA qL lgA
        have hBn := hB.out.setM 0 rfl (fitM N.id M.fr N.h.t false la) nilMA
        obtain ⟨wz, hwz⟩ : ∃ x, setM wL gA (fitM N.id M.fr N.h.t false la) nilMA = x := ⟨_, rfl⟩
        rw [hwz] at hBn qz
        replace hB : Hid (Bxs w.heap.size wz [⟨gA, 32, msC (fitM N.id M.fr N.h.t false la) nilMA⟩, ⟨w.heap.size + 1 + 1, 30, ndC zeroN nilA⟩, ⟨w.heap.size + 1, 32, msC M b⟩, ⟨w.heap.size, 30, ndC N a⟩]) := hid_mk hBn
        clear hBn
        unfold setM st11 fitM nilMA at hwz
        dsimp only at hwz
        rw [hwz]
        clear hwz
        have hS1 := And.intro ((hB.out.at_ 3 rfl).atN) ((hB.out.at_ 2 rfl).cell 1)
        refine hK.out _ _ (fun _ => hS1) ?_
        clear hK K hS0
        have hS0 := hS1
        clear hS1
        refine donem hR (h := ?_)
        try simp only [Act.put]
        go_wp2_with fail
        go_meet
        exact ⟨gA, rfl, lgA, qz, hB⟩
    case rest =>
      clear hB q1
      obtain ⟨gA, rfl, lgA, q2, hB⟩ := hcut
      obtain ⟨w2, hwc⟩ : ∃ x, x = wc := ⟨wc, rfl⟩
      subst hwc
      have z2 := q2.size
      have g1d : decide (M.term < N.h.t) = true := by simpa using g1c.out
      have hfin := hid_mk (hfi.out)
      have lX := blk14f (hB.out.at_ 3 rfl)
      have lY := blk14f (hB.out.at_ 1 rfl)
      have lA := blk11f (hB.out.at_ 0 rfl)
      have lM := blk11f (hB.out.at_ 2 rfl)
      go_upto_region 5 with fail
      clear lX lY lA lM
      refine regm (fun w' => AtN w' (w.heap.size) N a ∧ AtM w' gA (fitM N.id M.fr N.h.t false la) nilMA) 5 5 [(0, 0), (0, 0), (2, 2), (1, 1), (15, 4)] (by exact And.intro ((hB.out.at_ 3 rfl).atN) ((hB.out.at_ 0 rfl).atM)) (fun hS0 hR => ?_)
      replace hB := hid_mk hB.out.drew
      have qd : Below w.heap.size w w2.drew := by go_grown
      obtain ⟨wd, hwd⟩ : ∃ x, w2.drew = x := ⟨_, rfl⟩
      rw [hwd] at hS0 hB  qd ⊢
      clear hwd q2 z2
      have zd := qd.size
      refine tkn (i := 0) hR hS0 (h := ?_)
      refine tkn (i := 1) hR hS0 (h := ?_)
      have lY := blk14f (hB.out.at_ 1 rfl)
      refine twom (i := 2) (j := 3) hR (h := fun K hK => ?_) (h' := fun K hK => ?_)
      · go_simp
        clear lY
        obtain ⟨gS, hgS⟩ : ∃ g, wd.heap.size = g := ⟨_, rfl⟩
        have hL1 : Hid (Mgs (wd.alloc (.cells (msC (fitM N.id M.fr N.h.t false la) nilMA) 32)) 0 (some ⟨gS, 0, none⟩) 1 [((fitM N.id M.fr N.h.t false la), nilMA)]) := by rw [← hgS]; exact mgs_box (Blk.new _ _ _) (fitM_ok _ _ _ _ _)
        replace hB := hid_mk (hB.out.other (.cells (msC (fitM N.id M.fr N.h.t false la) nilMA) 32))
        have qS := qd.alloc qd.size (.cells (msC (fitM N.id M.fr N.h.t false la) nilMA) 32)
        obtain ⟨wS, hwS⟩ : ∃ x, wd.alloc (.cells (msC (fitM N.id M.fr N.h.t false la) nilMA) 32) = x := ⟨_, rfl⟩
        rw [hwS] at hL1 hB  qS
        unfold msC at hwS
        rw [hwS, hgS]
        clear hgS hwS
        have hS1 := And.intro ((hB.out.at_ 3 rfl).atN) ((hB.out.at_ 0 rfl).atM)
        refine hK.out _ _ (fun _ => hS1) ?_
        clear hK K hS0
        have hS0 := hS1
        clear hS1
        have lY := blk14f (hB.out.at_ 1 rfl)
        refine onem (i := 3) hR (h := fun K hK => ?_)
        go_simp
        clear lY
        replace hL1 := hid_mk (mgs_setN hL1.out (hB.out.at_ 1 rfl) (Nat.zero_le _) N a)
        have qz := setN_below N a qS (by omega : w.heap.size ≤ w.heap.size + 1 + 1)
        have hBn := hB.out.setN 1 rfl N a
        obtain ⟨wz, hwz⟩ : ∃ x, setN wS (w.heap.size + 1 + 1) N a = x := ⟨_, rfl⟩
        rw [hwz] at hBn  qz hL1
        replace hB : Hid (Bxs w.heap.size wz [⟨gA, 32, msC (fitM N.id M.fr N.h.t false la) nilMA⟩, ⟨w.heap.size + 1 + 1, 30, ndC N a⟩, ⟨w.heap.size + 1, 32, msC M b⟩, ⟨w.heap.size, 30, ndC N a⟩]) := hid_mk hBn
        clear hBn
        unfold setN set14 at hwz
        rw [hwz]
        clear hwz
        have hS1 := And.intro ((hB.out.at_ 3 rfl).atN) ((hB.out.at_ 0 rfl).atM)
        refine hK.out _ _ (fun _ => hS1) ?_
        clear hK K hS0
        have hS0 := hS1
        clear hS1
        refine onem (i := 4) hR (h := fun K hK => ?_)
        go_simp
        have hS1 := And.intro ((hB.out.at_ 3 rfl).atN) ((hB.out.at_ 0 rfl).atM)
        refine hK.out _ _ (fun _ => hS1) ?_
        clear hK K hS0
        have hS0 := hS1
        clear hS1
        refine donem hR (h := ?_)
        try simp only [Act.put]
        have lY := blk14c (hB.out.at_ 1 rfl)
        go_wp2
        refine ends_ret hQ (v := .tuple #[.agg (ndC N a), .slice (some ⟨gS, 0, none⟩) 1 1]) (by simp [results, Tryz.results21, go_sem, lY, ndC]) rfl ?_
        exact ⟨a, some ⟨gS, 0, none⟩, 1, 1, by rw [hfin.out.1]; rfl, by (rw [hfin.out.1]; exact hN.to qz), by rw [hfin.out.2]; exact hL1.out, Nat.le_refl _, qz⟩
      · go_simp
        clear lY
        have qS := setN_below N a qd (by omega : w.heap.size ≤ w.heap.size + 1 + 1)
        have hBn := hB.out.setN 1 rfl N a
        obtain ⟨wS, hwz⟩ : ∃ x, setN wd (w.heap.size + 1 + 1) N a = x := ⟨_, rfl⟩
        rw [hwz] at hBn  qS
        replace hB : Hid (Bxs w.heap.size wS [⟨gA, 32, msC (fitM N.id M.fr N.h.t false la) nilMA⟩, ⟨w.heap.size + 1 + 1, 30, ndC N a⟩, ⟨w.heap.size + 1, 32, msC M b⟩, ⟨w.heap.size, 30, ndC N a⟩]) := hid_mk hBn
        clear hBn
        unfold setN set14 at hwz
        rw [hwz]
        clear hwz
        have hS1 := And.intro ((hB.out.at_ 3 rfl).atN) ((hB.out.at_ 0 rfl).atM)
        refine hK.out _ _ (fun _ => hS1) ?_
        clear hK K hS0
        have hS0 := hS1
        clear hS1
        refine onem (i := 2) hR (h := fun K hK => ?_)
        go_simp
        obtain ⟨gS, hgS⟩ : ∃ g, wS.heap.size = g := ⟨_, rfl⟩
        have hL1 : Hid (Mgs (wS.alloc (.cells (msC (fitM N.id M.fr N.h.t false la) nilMA) 32)) 0 (some ⟨gS, 0, none⟩) 1 [((fitM N.id M.fr N.h.t false la), nilMA)]) := by rw [← hgS]; exact mgs_box (Blk.new _ _ _) (fitM_ok _ _ _ _ _)
        replace hB := hid_mk (hB.out.other (.cells (msC (fitM N.id M.fr N.h.t false la) nilMA) 32))
        have qz := qS.alloc qS.size (.cells (msC (fitM N.id M.fr N.h.t false la) nilMA) 32)
        obtain ⟨wz, hwS⟩ : ∃ x, wS.alloc (.cells (msC (fitM N.id M.fr N.h.t false la) nilMA) 32) = x := ⟨_, rfl⟩
        rw [hwS] at hL1 hB  qz
        unfold msC at hwS
        rw [hwS, hgS]
        clear hgS hwS
        have hS1 := And.intro ((hB.out.at_ 3 rfl).atN) ((hB.out.at_ 0 rfl).atM)
        refine hK.out _ _ (fun _ => hS1) ?_
        clear hK K hS0
        have hS0 := hS1
        clear hS1
        refine onem (i := 4) hR (h := fun K hK => ?_)
        go_simp
        have hS1 := And.intro ((hB.out.at_ 3 rfl).atN) ((hB.out.at_ 0 rfl).atM)
        refine hK.out _ _ (fun _ => hS1) ?_
        clear hK K hS0
        have hS0 := hS1
        clear hS1
        refine donem hR (h := ?_)
        try simp only [Act.put]
        have lY := blk14c (hB.out.at_ 1 rfl)
        go_wp2
        refine ends_ret hQ (v := .tuple #[.agg (ndC N a), .slice (some ⟨gS, 0, none⟩) 1 1]) (by simp [results, Tryz.results21, go_sem, lY, ndC]) rfl ?_
        exact ⟨a, some ⟨gS, 0, none⟩, 1, 1, by rw [hfin.out.1]; rfl, by (rw [hfin.out.1]; exact hN.to qz), by rw [hfin.out.2]; exact hL1.out, Nat.le_refl _, qz⟩
  have g1b : (M.term == N.h.t) = true := by simpa using g1
  have g1c : N.h.t ≤ M.term := by omega
  replace g1c := hid_mk g1c
  have g1e : ¬ M.term < N.h.t := by omega
  have g1d : decide (M.term < N.h.t) = false := by simpa using g1e
  replace g1e := hid_mk g1e
  replace g1 := hid_mk g1
  by_cases g2 : N.role = 2
  case pos =>
    have g2b : (N.role == 2) = true := by simpa using g2
    have hfi := hyB.out g1c.out g2
    replace g2 := hid_mk g2
    have hno := hid_mk (hfi)
    have lX := blk14f (hB.out.at_ 2 rfl)
    have lY := blk14f (hB.out.at_ 0 rfl)
    have lM := blk11f (hB.out.at_ 1 rfl)
    go_wp2
    clear lX lY lM
    have kf := setN_blk (N := N) (a := a) (hB.out.at_ 0 rfl)
    unfold setN set14 at kf
    have rs := blk14c kf
    refine ends_ret hQ (v := .tuple #[.agg (ndC N a), .slice none 0 0]) (by simp [results, Tryz.results21, go_sem, rs, ndC]) rfl ?_
    exact ⟨a, none, 0, 0, by rw [hno.out.1]; rfl, by rw [hno.out.1]; exact hN.to (setN_below N a q1 (by omega)), by rw [hno.out.2]; exact mgs_nil, Nat.le_refl _, setN_below N a q1 (by omega)⟩
  have g2b : (N.role == 2) = false := by simpa using g2
  replace g2 := hid_mk g2
  exact absurd ⟨rfl, g1.out, g2.out⟩ hK.out
set_option maxRecDepth 100000 in
set_option maxHeartbeats 12800000 in
theorem RInst2_any (N : Nd) (a : NdA) (M : Ms) (b : MsA) (d : Int) (w : World) {B : Nat} (_hBw : B ≤ w.heap.size) (hzr : rightN N = true) (hN : NdOk w B N a) (hMs : MsOk w B M b) (_ht : Tab w) (hK1 : toM N M 5 = true) (hK2 : M.term = N.h.t) (hK3 : ¬ N.role = 2) (hK4 : M.index ≤ N.commit) :
    Calls Tryz.prog 21 #[nodeV N a, msgV M b, .int .i64 d] w fun e w' => RetNL w B (instN N M d) (instL N M) e w' := by
  obtain ⟨z, hz⟩ : ∃ z, toM N M 5 = z := ⟨_, rfl⟩
  rw [hz] at hK1
  replace hK1 := hid_mk hK1
  replace hK2 := hid_mk hK2
  replace hK3 := hid_mk hK3
  replace hK4 := hid_mk hK4
  obtain ⟨zh, hzh⟩ : ∃ z, rightH (instH N M) = z := ⟨_, rfl⟩
  obtain ⟨la, hla⟩ : ∃ x, lastJ N.h.l = x := ⟨_, rfl⟩
  obtain ⟨AJ, hAJ⟩ : ∃ x, adoptJ N.h.l M.index M.lterm = x := ⟨_, rfl⟩
  have hj : Hid (rightJ N.h.l = true) := (right_n hzr).1
  have hcb := commit_bounds hzr
  have hbc : N.h.l.base ≤ N.commit := by omega
  obtain ⟨N', hN'⟩ : ∃ z, instN N M d = z := ⟨_, rfl⟩
  obtain ⟨L, hL⟩ : ∃ z, instL N M = z := ⟨_, rfl⟩
  obtain ⟨F, hF⟩ : ∃ x, followN N M.fr d = x := ⟨_, rfl⟩
  obtain ⟨aF, haF⟩ : ∃ x, (⟨a.R, a.V, ⟨none, 0, 0⟩, ⟨none, 0, 0⟩⟩ : NdA) = x := ⟨_, rfl⟩
  have hNo1 : Hid (z = false → N' = N ∧ L = []) := fun e => by
    have hp : toldC N M 5 = false := by rw [told_to hzr, hz, e]; rfl
    rw [← hN', ← hL]
    exact told_not hp
  have hNo2 : Hid (N.h.t < M.term → N' = N ∧ L = []) := fun e => by
    have hp : toldC N M 5 = false := by rw [told_to hzr, show decide (M.term ≤ N.h.t) = false by simpa using e]; cases toM N M 5 <;> rfl
    rw [← hN', ← hL]
    exact told_not hp
  have hYes : Hid (z = true → M.term ≤ N.h.t →
      rightJ ⟨M.index, M.lterm, []⟩ = true ∧ (M.term < N.h.t → N' = N ∧ L = [fitM N.id M.fr N.h.t false la]) ∧ (N.h.t ≤ M.term → N.role = 2 → N' = N ∧ L = []) ∧
      (N.h.t ≤ M.term → ¬ N.role = 2 → M.index ≤ F.commit → N' = F ∧ L = [fitM N.id M.fr N.h.t true F.commit]) ∧
      (N.h.t ≤ M.term → ¬ N.role = 2 → F.commit < M.index → zh = false → N' = F ∧ L = [fitM N.id M.fr N.h.t false la]) ∧
      (N.h.t ≤ M.term → ¬ N.role = 2 → F.commit < M.index → zh = true → N' = ⟨F.id, ⟨F.h.t, F.h.v, AJ, M.s, M.vs⟩, F.role, F.lead, F.timer, M.index, F.got, F.ps⟩ ∧ L = [fitM N.id M.fr N.h.t true M.index])) := fun e e2 => by
    have hp : toldC N M 5 = true := by rw [told_to hzr, hz, e]; simpa using e2
    refine ⟨right_at (told_parts hp).2.1 (told_parts hp).2.2.1, ?_⟩
    rw [← hN', ← hL, ← hla, ← hzh, ← hAJ, ← hF]
    exact inst_say hp
  rw [hN', hL]
  have hFc : F.commit = N.commit := by rw [← hF]; rfl
  have hFh : F.h = N.h := by rw [← hF]; rfl
  have hFok : ∀ {w' : World}, NdOk w' B N a → NdOk w' B F aF := fun h => by
    rw [← hF, ← haF]
    exact ⟨h.recs, h.rc, h.rb, h.vs, h.vc, h.vb, h.sb, Reads.none_, Nat.le_refl _, by dsimp only; omega, Reads.none_, Nat.le_refl _, by dsimp only; omega⟩
  have haR : aF.R = a.R := by rw [← haF]
  have hAL : AJ.rs.length ≤ N.h.l.rs.length := by rw [← hAJ]; exact adopt_lenK _ _ _
  have hAD := fun (w : World) (h0 : B ≤ w.heap.size) (h1 : N.h.l.base < M.index) (h2 : rightJ ⟨M.index, M.lterm, []⟩ = true) (k1 : Recs w B a.R.A a.R.n N.h.l.rs) => refAdoptC_any N.h.l M.index M.lterm a.R.A a.R.n a.R.c w h0 (by have := hN.rb; omega) hN.rc h1 k1 hj.out h2
  rw [hAJ] at hAD
  unfold instH at hzh
  rw [hAJ] at hzh
  have hWR := fun (R V : Slc) (w : World) (k1 : R.n ≤ 140737488355328) (k2 : V.n ≤ 140737488355328) (k3 : Recs w B R.A R.n AJ.rs) (k4 : Ints w B V.A V.n M.vs) (k5 : Tab w) => HRight_any ⟨N.h.t, N.h.v, AJ, M.s, M.vs⟩ R V w k1 k2 k3 k4 k5
  rw [hzh] at hWR
  have hTo := fun (w : World) (h : MsOk w B M b) => RTo_any N a M b 5 w h
  rw [hz] at hTo
  have hLA := fun (w : World) (h : NdOk w B N a) => RLastN_any N a w h hj.out
  rw [hla] at hLA
  have hFo := fun (w : World) => RFollow_any N a M.fr d w
  rw [hF, haF] at hFo
  rw [← hFh] at hAD hWR
  rw [← haR] at hAD
  replace hFc := hid_mk hFc
  replace hFh := hid_mk hFh
  replace haR := hid_mk haR
  clear hN' hL hzr hcb hz hzh hla hAJ hF haF
  have hlN := hN.recs.len
  have hnn : a.R.n * 32 ≤ 140737488351232 := hN.rb
  unfold nodeV at hFo hLA hTo ⊢
  unfold msgV at hTo ⊢
  obtain ⟨w0, hw0⟩ : ∃ x, (((w.alloc (.cells (ndC N a) 30)).alloc (.cells (msC M b) 32)).alloc (.cells (ndC zeroN nilA) 30)) = x := ⟨_, rfl⟩
  have hB : Hid (Bxs w.heap.size w0 [⟨w.heap.size + 1 + 1, 30, ndC zeroN nilA⟩, ⟨w.heap.size + 1, 32, msC M b⟩, ⟨w.heap.size, 30, ndC N a⟩]) := by
    rw [← hw0]
    exact ((((Bxs.nil w.heap.size w).add_ rfl (by omega) 30 (ndC N a)).add_ (by simp) (by omega) 32 (msC M b)).add_ (by simp) (by omega) 30 (ndC zeroN nilA))
  have q0 : Below w.heap.size w w0 := by rw [← hw0]; go_grown
  have z0 := q0.size
  dsimp only [ndC, msC, zeroN, nilA, zeroM, nilMA] at hw0
  refine calls_of_wpQ Tryz.func21 rfl ?_
  intro Q hQ
  simp only [Tryz.ntmps21, List.size_toArray, List.length_cons, List.length_nil, Nat.reduceAdd, Nat.reduceSub, Array.replicate_succ, Array.replicate_zero, List.push_toArray, List.append_toArray, List.nil_append, List.cons_append]
  go_upto_region 1 with fail
  try rw [hw0]
  clear hw0
  have lX := blk14c (hB.out.at_ 2 rfl)
  have lM := blk11v (hB.out.at_ 1 rfl)
  go_wp2_with fail
  clear lX lM
  refine (hTo _ (hMs.to q0)).mono ?_
  rintro e w1 ⟨rfl, hb1⟩
  have q1 := (after (w := w) hb1 q0).1
  have z1 := q1.size
  replace hB := hid_mk (hB.out.keep hb1)
  clear hb1 q0 z0
  cases z
  case false =>
    exact absurd hK1.out (by decide)
  by_cases g0 : N.h.t < M.term
  case pos =>
    exact absurd g0 (by have := hK2.out; omega)
  have g0b : decide (N.h.t < M.term) = false := by simpa using g0
  replace g0 : M.term ≤ N.h.t := by omega
  obtain ⟨hsr, hyA, hyB, hyC, hyD, hyE⟩ := hYes.out rfl g0
  replace hsr := hid_mk hsr
  replace hyA := hid_mk hyA
  replace hyB := hid_mk hyB
  replace hyC := hid_mk hyC
  replace hyD := hid_mk hyD
  replace hyE := hid_mk hyE
  clear hYes hNo1 hNo2 hTo
  replace g0 := hid_mk g0
  by_cases g1 : M.term = N.h.t
  case neg =>
    exact absurd hK2.out g1
  have g1b : (M.term == N.h.t) = true := by simpa using g1
  have g1c : N.h.t ≤ M.term := by omega
  replace g1c := hid_mk g1c
  have g1e : ¬ M.term < N.h.t := by omega
  have g1d : decide (M.term < N.h.t) = false := by simpa using g1e
  replace g1e := hid_mk g1e
  replace g1 := hid_mk g1
  by_cases g2 : N.role = 2
  case pos =>
    exact absurd g2 hK3.out
  have g2b : (N.role == 2) = false := by simpa using g2
  replace g2 := hid_mk g2
  have lX := blk14f (hB.out.at_ 2 rfl)
  have lM := blk11f (hB.out.at_ 1 rfl)
  go_upto_region 3 with fail
  clear lX lM
  go_cut [8] from 36 (fun p8 wx => ∃ gA : Nat, p8 = .pointer (some ⟨gA, 0, none⟩) ∧ w.heap.size ≤ gA ∧ Below w.heap.size w wx ∧ Hid (Bxs w.heap.size wx [⟨gA, 32, msC (fitM N.id M.fr N.h.t false la) nilMA⟩, ⟨w.heap.size + 1 + 1, 30, ndC zeroN nilA⟩, ⟨w.heap.size + 1, 32, msC M b⟩, ⟨w.heap.size, 30, ndC N a⟩]))
  case first =>
    refine regm (fun w' => AtN w' (w.heap.size) N a ∧ w'.cell? ⟨w.heap.size + 1, 1, none⟩ = some (.int .i64 M.fr)) 12 12 [(0, 0), (1, 1), (0, 0), (4, 4), (0, 0), (16, 16), (32, 32), (0, 0), (128, 128), (330, 330), (0, 0), (2047, 1536)] (by exact And.intro ((hB.out.at_ 2 rfl).atN) ((hB.out.at_ 1 rfl).cell 1)) (fun hS0 hR => ?_)
    replace hB := hid_mk hB.out.drew
    have qd : Below w.heap.size w w1.drew := by go_grown
    obtain ⟨wd, hwd⟩ : ∃ x, w1.drew = x := ⟨_, rfl⟩
    rw [hwd] at hS0 hB  qd ⊢
    clear hwd q1 z1
    have zd := qd.size
    refine tkn (i := 0) hR hS0 (h := ?_)
    refine tkn (i := 1) hR hS0 (h := ?_)
    refine tkn (i := 2) hR hS0 (h := ?_)
    refine tkn (i := 3) hR hS0 (h := ?_)
    refine tkn (i := 4) hR hS0 (h := ?_)
    simp only [Act.put]
    refine tkn (i := 5) hR hS0 (h := ?_)
    refine tkn (i := 6) hR hS0 (h := ?_)
    refine tkn (i := 7) hR hS0 (h := ?_)
    refine twom (i := 8) (j := 10) hR (h := fun K hK => ?_) (h' := fun K hK => ?_)
    · go_simp
      refine (hLA _ (hN.to qd)).mono ?_
      rintro e wL ⟨rfl, hb1⟩
      have qL := (after (w := w) hb1 qd).1
      replace hB := hid_mk (hB.out.keep hb1)
      clear hb1
      have hS1 := And.intro ((hB.out.at_ 2 rfl).atN) ((hB.out.at_ 1 rfl).cell 1)
      refine hK.out _ _ (fun _ => hS1) ?_
      clear hK K hS0
      have hS0 := hS1
      clear hS1
      refine tkn (i := 9) hR hS0 (h := ?_)
      refine onem (i := 10) hR (h := fun K hK => ?_)
      go_simp
      obtain ⟨gA, hgA⟩ : ∃ g, wL.heap.size = g := ⟨_, rfl⟩
      have lgA : w.heap.size ≤ gA := by rw [← hgA]; exact qL.size
      replace hB := hid_mk (hB.out.add_ hgA lgA 32 (msC zeroM nilMA))
      have qA := qL.alloc qL.size (.cells (msC zeroM nilMA) 32)
      obtain ⟨wA, hwA⟩ : ∃ x, wL.alloc (.cells (msC zeroM nilMA) 32) = x := ⟨_, rfl⟩
      rw [hwA] at hB  qA
      dsimp only [ndC, msC, zeroN, nilA, zeroM, nilMA] at hwA
      rw [hwA, hgA]
      clear hwA hgA
      have hS1 := And.intro ((hB.out.at_ 3 rfl).atN) ((hB.out.at_ 2 rfl).cell 1)
      refine hK.out _ _ (fun _ => hS1) ?_
      clear hK K hS0
      have hS0 := hS1
      clear hS1
      have lA := blk11f (hB.out.at_ 0 rfl)
      refine onem (i := 11) hR (h := fun K hK => ?_)
      go_simp
      clear lA
      have qz := setM_below (fitM N.id M.fr N.h.t false la) nilMA qA lgA
      have hBn := hB.out.setM 0 rfl (fitM N.id M.fr N.h.t false la) nilMA
      obtain ⟨wz, hwz⟩ : ∃ x, setM wA gA (fitM N.id M.fr N.h.t false la) nilMA = x := ⟨_, rfl⟩
      rw [hwz] at hBn qz
      replace hB : Hid (Bxs w.heap.size wz [⟨gA, 32, msC (fitM N.id M.fr N.h.t false la) nilMA⟩, ⟨w.heap.size + 1 + 1, 30, ndC zeroN nilA⟩, ⟨w.heap.size + 1, 32, msC M b⟩, ⟨w.heap.size, 30, ndC N a⟩]) := hid_mk hBn
      clear hBn
      unfold setM st11 fitM nilMA at hwz
      dsimp only at hwz
      rw [hwz]
      clear hwz
      have hS1 := And.intro ((hB.out.at_ 3 rfl).atN) ((hB.out.at_ 2 rfl).cell 1)
      refine hK.out _ _ (fun _ => hS1) ?_
      clear hK K hS0
      have hS0 := hS1
      clear hS1
      refine donem hR (h := ?_)
      try simp only [Act.put]
      go_wp2_with fail
      go_meet
      exact ⟨gA, rfl, lgA, qz, hB⟩
    · go_simp
      obtain ⟨gA, hgA⟩ : ∃ g, wd.heap.size = g := ⟨_, rfl⟩
      have lgA : w.heap.size ≤ gA := by rw [← hgA]; exact qd.size
      replace hB := hid_mk (hB.out.add_ hgA lgA 32 (msC zeroM nilMA))
      have qA := qd.alloc qd.size (.cells (msC zeroM nilMA) 32)
      obtain ⟨wA, hwA⟩ : ∃ x, wd.alloc (.cells (msC zeroM nilMA) 32) = x := ⟨_, rfl⟩
      rw [hwA] at hB  qA
      dsimp only [ndC, msC, zeroN, nilA, zeroM, nilMA] at hwA
      rw [hwA, hgA]
      clear hwA hgA
      have hS1 := And.intro ((hB.out.at_ 3 rfl).atN) ((hB.out.at_ 2 rfl).cell 1)
      refine hK.out _ _ (fun _ => hS1) ?_
      clear hK K hS0
      have hS0 := hS1
      clear hS1
      refine onem (i := 8) hR (h := fun K hK => ?_)
      go_simp
      refine (hLA _ (hN.to qA)).mono ?_
      rintro e wL ⟨rfl, hb1⟩
      have qL := (after (w := w) hb1 qA).1
      replace hB := hid_mk (hB.out.keep hb1)
      clear hb1
      have hS1 := And.intro ((hB.out.at_ 3 rfl).atN) ((hB.out.at_ 2 rfl).cell 1)
      refine hK.out _ _ (fun _ => hS1) ?_
      clear hK K hS0
      have hS0 := hS1
      clear hS1
      refine tkn (i := 9) hR hS0 (h := ?_)
      have lA := blk11f (hB.out.at_ 0 rfl)
      refine onem (i := 11) hR (h := fun K hK => ?_)
      go_simp
      clear lA
      have qz := setM_below (fitM N.id M.fr N.h.t false la) nilMA qL lgA
      have hBn := hB.out.setM 0 rfl (fitM N.id M.fr N.h.t false la) nilMA
      obtain ⟨wz, hwz⟩ : ∃ x, setM wL gA (fitM N.id M.fr N.h.t false la) nilMA = x := ⟨_, rfl⟩
      rw [hwz] at hBn qz
      replace hB : Hid (Bxs w.heap.size wz [⟨gA, 32, msC (fitM N.id M.fr N.h.t false la) nilMA⟩, ⟨w.heap.size + 1 + 1, 30, ndC zeroN nilA⟩, ⟨w.heap.size + 1, 32, msC M b⟩, ⟨w.heap.size, 30, ndC N a⟩]) := hid_mk hBn
      clear hBn
      unfold setM st11 fitM nilMA at hwz
      dsimp only at hwz
      rw [hwz]
      clear hwz
      have hS1 := And.intro ((hB.out.at_ 3 rfl).atN) ((hB.out.at_ 2 rfl).cell 1)
      refine hK.out _ _ (fun _ => hS1) ?_
      clear hK K hS0
      have hS0 := hS1
      clear hS1
      refine donem hR (h := ?_)
      try simp only [Act.put]
      go_wp2_with fail
      go_meet
      exact ⟨gA, rfl, lgA, qz, hB⟩
  case rest =>
    clear hB q1
    obtain ⟨gA, rfl, lgA, q2, hB⟩ := hcut
    obtain ⟨w2, hwc⟩ : ∃ x, x = wc := ⟨wc, rfl⟩
    subst hwc
    have z2 := q2.size
    have lX := blk14c (hB.out.at_ 3 rfl)
    have lM := blk11v (hB.out.at_ 2 rfl)
    go_wp2_with fail
    clear lX lM
    refine (hFo _).mono ?_
    rintro e w3 ⟨rfl, hb1⟩
    have q3 := (after (w := w) hb1 q2).1
    have z3 := q3.size
    replace hB := hid_mk (hB.out.keep hb1)
    clear hb1 q2 z2
    have lX := blk14f (hB.out.at_ 3 rfl)
    go_upto_region 7 with fail
    clear lX
    have q4 := setN_below F aF q3 (by omega : w.heap.size ≤ w.heap.size)
    have hBn := hB.out.setN 3 rfl F aF
    obtain ⟨w4, hwz⟩ : ∃ x, setN w3 (w.heap.size) F aF = x := ⟨_, rfl⟩
    rw [hwz] at q4 hBn
    unfold setN set14 at hwz
    try rw [hwz]
    clear hwz
    replace hB : Hid (Bxs w.heap.size w4 [⟨gA, 32, msC (fitM N.id M.fr N.h.t false la) nilMA⟩, ⟨w.heap.size + 1 + 1, 30, ndC zeroN nilA⟩, ⟨w.heap.size + 1, 32, msC M b⟩, ⟨w.heap.size, 30, ndC F aF⟩]) := hid_mk hBn
    clear hBn
    have z4 := q4.size
    clear q3 z3
    by_cases g3 : M.index ≤ F.commit
    case pos =>
      have g3b : decide (M.index ≤ F.commit) = true := by simpa using g3
      have hfi := hid_mk (hyC.out g1c.out g2.out g3)
      replace g3 := hid_mk g3
      have lX := blk14f (hB.out.at_ 3 rfl)
      have lM := blk11f (hB.out.at_ 2 rfl)
      have lA := blk11f (hB.out.at_ 0 rfl)
      go_upto_region 10 with fail
      clear lX lM lA
      have hBn : Bxs w.heap.size ((w4.setCell ⟨gA, 4, none⟩ (.bool true)).setCell ⟨gA, 5, none⟩ (.int .i64 F.commit)) [⟨gA, 32, msC (fitM N.id M.fr N.h.t true F.commit) nilMA⟩, ⟨w.heap.size + 1 + 1, 30, ndC zeroN nilA⟩, ⟨w.heap.size + 1, 32, msC M b⟩, ⟨w.heap.size, 30, ndC F aF⟩] := ((hB.out.set 0 rfl 4 (.bool true)).set 0 rfl 5 (.int .i64 F.commit))
      have q5 := ((q4.setCell (p := ⟨gA, 4, none⟩) (by dsimp only; omega) (.bool true)).setCell (p := ⟨gA, 5, none⟩) (by dsimp only; omega) (.int .i64 F.commit))
      obtain ⟨w5, hwz⟩ : ∃ x, ((w4.setCell ⟨gA, 4, none⟩ (.bool true)).setCell ⟨gA, 5, none⟩ (.int .i64 F.commit)) = x := ⟨_, rfl⟩
      rw [hwz] at hBn q5
      try rw [hwz]
      clear hwz
      replace hB := hid_mk hBn
      clear hBn
      have z5 := q5.size
      clear q4 z4
      have hfin := hid_mk (hfi.out)
      have lX := blk14f (hB.out.at_ 3 rfl)
      have lY := blk14f (hB.out.at_ 1 rfl)
      have lA := blk11f (hB.out.at_ 0 rfl)
      have lM := blk11f (hB.out.at_ 2 rfl)
      go_upto_region 10 with fail
      clear lX lY lA lM
      refine regm (fun w' => AtN w' (w.heap.size) F aF ∧ AtM w' gA (fitM N.id M.fr N.h.t true F.commit) nilMA) 5 5 [(0, 0), (0, 0), (2, 2), (1, 1), (15, 4)] (by exact And.intro ((hB.out.at_ 3 rfl).atN) ((hB.out.at_ 0 rfl).atM)) (fun hS0 hR => ?_)
      replace hB := hid_mk hB.out.drew
      have qd : Below w.heap.size w w5.drew := by go_grown
      obtain ⟨wd, hwd⟩ : ∃ x, w5.drew = x := ⟨_, rfl⟩
      rw [hwd] at hS0 hB  qd ⊢
      clear hwd q5 z5
      have zd := qd.size
      refine tkn (i := 0) hR hS0 (h := ?_)
      refine tkn (i := 1) hR hS0 (h := ?_)
      have lY := blk14f (hB.out.at_ 1 rfl)
      refine twom (i := 2) (j := 3) hR (h := fun K hK => ?_) (h' := fun K hK => ?_)
      · go_simp
        clear lY
        obtain ⟨gS, hgS⟩ : ∃ g, wd.heap.size = g := ⟨_, rfl⟩
        have hL1 : Hid (Mgs (wd.alloc (.cells (msC (fitM N.id M.fr N.h.t true F.commit) nilMA) 32)) 0 (some ⟨gS, 0, none⟩) 1 [((fitM N.id M.fr N.h.t true F.commit), nilMA)]) := by rw [← hgS]; exact mgs_box (Blk.new _ _ _) (fitM_ok _ _ _ _ _)
        replace hB := hid_mk (hB.out.other (.cells (msC (fitM N.id M.fr N.h.t true F.commit) nilMA) 32))
        have qS := qd.alloc qd.size (.cells (msC (fitM N.id M.fr N.h.t true F.commit) nilMA) 32)
        obtain ⟨wS, hwS⟩ : ∃ x, wd.alloc (.cells (msC (fitM N.id M.fr N.h.t true F.commit) nilMA) 32) = x := ⟨_, rfl⟩
        rw [hwS] at hL1 hB  qS
        unfold msC at hwS
        rw [hwS, hgS]
        clear hgS hwS
        have hS1 := And.intro ((hB.out.at_ 3 rfl).atN) ((hB.out.at_ 0 rfl).atM)
        refine hK.out _ _ (fun _ => hS1) ?_
        clear hK K hS0
        have hS0 := hS1
        clear hS1
        have lY := blk14f (hB.out.at_ 1 rfl)
        refine onem (i := 3) hR (h := fun K hK => ?_)
        go_simp
        clear lY
        replace hL1 := hid_mk (mgs_setN hL1.out (hB.out.at_ 1 rfl) (Nat.zero_le _) F aF)
        have qz := setN_below F aF qS (by omega : w.heap.size ≤ w.heap.size + 1 + 1)
        have hBn := hB.out.setN 1 rfl F aF
        obtain ⟨wz, hwz⟩ : ∃ x, setN wS (w.heap.size + 1 + 1) F aF = x := ⟨_, rfl⟩
        rw [hwz] at hBn  qz hL1
        replace hB : Hid (Bxs w.heap.size wz [⟨gA, 32, msC (fitM N.id M.fr N.h.t true F.commit) nilMA⟩, ⟨w.heap.size + 1 + 1, 30, ndC F aF⟩, ⟨w.heap.size + 1, 32, msC M b⟩, ⟨w.heap.size, 30, ndC F aF⟩]) := hid_mk hBn
        clear hBn
        unfold setN set14 at hwz
        rw [hwz]
        clear hwz
        have hS1 := And.intro ((hB.out.at_ 3 rfl).atN) ((hB.out.at_ 0 rfl).atM)
        refine hK.out _ _ (fun _ => hS1) ?_
        clear hK K hS0
        have hS0 := hS1
        clear hS1
        refine onem (i := 4) hR (h := fun K hK => ?_)
        go_simp
        have hS1 := And.intro ((hB.out.at_ 3 rfl).atN) ((hB.out.at_ 0 rfl).atM)
        refine hK.out _ _ (fun _ => hS1) ?_
        clear hK K hS0
        have hS0 := hS1
        clear hS1
        refine donem hR (h := ?_)
        try simp only [Act.put]
        have lY := blk14c (hB.out.at_ 1 rfl)
        go_wp2
        refine ends_ret hQ (v := .tuple #[.agg (ndC F aF), .slice (some ⟨gS, 0, none⟩) 1 1]) (by simp [results, Tryz.results21, go_sem, lY, ndC]) rfl ?_
        exact ⟨aF, some ⟨gS, 0, none⟩, 1, 1, by rw [hfin.out.1]; rfl, by (rw [hfin.out.1]; exact hFok (hN.to qz)), by rw [hfin.out.2]; exact hL1.out, Nat.le_refl _, qz⟩
      · go_simp
        clear lY
        have qS := setN_below F aF qd (by omega : w.heap.size ≤ w.heap.size + 1 + 1)
        have hBn := hB.out.setN 1 rfl F aF
        obtain ⟨wS, hwz⟩ : ∃ x, setN wd (w.heap.size + 1 + 1) F aF = x := ⟨_, rfl⟩
        rw [hwz] at hBn  qS
        replace hB : Hid (Bxs w.heap.size wS [⟨gA, 32, msC (fitM N.id M.fr N.h.t true F.commit) nilMA⟩, ⟨w.heap.size + 1 + 1, 30, ndC F aF⟩, ⟨w.heap.size + 1, 32, msC M b⟩, ⟨w.heap.size, 30, ndC F aF⟩]) := hid_mk hBn
        clear hBn
        unfold setN set14 at hwz
        rw [hwz]
        clear hwz
        have hS1 := And.intro ((hB.out.at_ 3 rfl).atN) ((hB.out.at_ 0 rfl).atM)
        refine hK.out _ _ (fun _ => hS1) ?_
        clear hK K hS0
        have hS0 := hS1
        clear hS1
        refine onem (i := 2) hR (h := fun K hK => ?_)
        go_simp
        obtain ⟨gS, hgS⟩ : ∃ g, wS.heap.size = g := ⟨_, rfl⟩
        have hL1 : Hid (Mgs (wS.alloc (.cells (msC (fitM N.id M.fr N.h.t true F.commit) nilMA) 32)) 0 (some ⟨gS, 0, none⟩) 1 [((fitM N.id M.fr N.h.t true F.commit), nilMA)]) := by rw [← hgS]; exact mgs_box (Blk.new _ _ _) (fitM_ok _ _ _ _ _)
        replace hB := hid_mk (hB.out.other (.cells (msC (fitM N.id M.fr N.h.t true F.commit) nilMA) 32))
        have qz := qS.alloc qS.size (.cells (msC (fitM N.id M.fr N.h.t true F.commit) nilMA) 32)
        obtain ⟨wz, hwS⟩ : ∃ x, wS.alloc (.cells (msC (fitM N.id M.fr N.h.t true F.commit) nilMA) 32) = x := ⟨_, rfl⟩
        rw [hwS] at hL1 hB  qz
        unfold msC at hwS
        rw [hwS, hgS]
        clear hgS hwS
        have hS1 := And.intro ((hB.out.at_ 3 rfl).atN) ((hB.out.at_ 0 rfl).atM)
        refine hK.out _ _ (fun _ => hS1) ?_
        clear hK K hS0
        have hS0 := hS1
        clear hS1
        refine onem (i := 4) hR (h := fun K hK => ?_)
        go_simp
        have hS1 := And.intro ((hB.out.at_ 3 rfl).atN) ((hB.out.at_ 0 rfl).atM)
        refine hK.out _ _ (fun _ => hS1) ?_
        clear hK K hS0
        have hS0 := hS1
        clear hS1
        refine donem hR (h := ?_)
        try simp only [Act.put]
        have lY := blk14c (hB.out.at_ 1 rfl)
        go_wp2
        refine ends_ret hQ (v := .tuple #[.agg (ndC F aF), .slice (some ⟨gS, 0, none⟩) 1 1]) (by simp [results, Tryz.results21, go_sem, lY, ndC]) rfl ?_
        exact ⟨aF, some ⟨gS, 0, none⟩, 1, 1, by rw [hfin.out.1]; rfl, by (rw [hfin.out.1]; exact hFok (hN.to qz)), by rw [hfin.out.2]; exact hL1.out, Nat.le_refl _, qz⟩
    exact absurd (by rw [hFc.out]; exact hK4.out) g3
set_option maxRecDepth 100000 in
set_option maxHeartbeats 12800000 in
theorem RInst3_any (N : Nd) (a : NdA) (M : Ms) (b : MsA) (d : Int) (w : World) {B : Nat} (hBw : B ≤ w.heap.size) (hzr : rightN N = true) (hN : NdOk w B N a) (hMs : MsOk w B M b) (ht : Tab w) (hK1 : toM N M 5 = true) (hK2 : M.term = N.h.t) (hK3 : ¬ N.role = 2) (hK4 : N.commit < M.index) :
    Calls Tryz.prog 21 #[nodeV N a, msgV M b, .int .i64 d] w fun e w' => RetNL w B (instN N M d) (instL N M) e w' := by
  obtain ⟨z, hz⟩ : ∃ z, toM N M 5 = z := ⟨_, rfl⟩
  rw [hz] at hK1
  replace hK1 := hid_mk hK1
  replace hK2 := hid_mk hK2
  replace hK3 := hid_mk hK3
  replace hK4 := hid_mk hK4
  obtain ⟨zh, hzh⟩ : ∃ z, rightH (instH N M) = z := ⟨_, rfl⟩
  obtain ⟨la, hla⟩ : ∃ x, lastJ N.h.l = x := ⟨_, rfl⟩
  obtain ⟨AJ, hAJ⟩ : ∃ x, adoptJ N.h.l M.index M.lterm = x := ⟨_, rfl⟩
  have hj : Hid (rightJ N.h.l = true) := (right_n hzr).1
  have hcb := commit_bounds hzr
  have hbc : N.h.l.base ≤ N.commit := by omega
  obtain ⟨N', hN'⟩ : ∃ z, instN N M d = z := ⟨_, rfl⟩
  obtain ⟨L, hL⟩ : ∃ z, instL N M = z := ⟨_, rfl⟩
  obtain ⟨F, hF⟩ : ∃ x, followN N M.fr d = x := ⟨_, rfl⟩
  obtain ⟨aF, haF⟩ : ∃ x, (⟨a.R, a.V, ⟨none, 0, 0⟩, ⟨none, 0, 0⟩⟩ : NdA) = x := ⟨_, rfl⟩
  have hNo1 : Hid (z = false → N' = N ∧ L = []) := fun e => by
    have hp : toldC N M 5 = false := by rw [told_to hzr, hz, e]; rfl
    rw [← hN', ← hL]
    exact told_not hp
  have hNo2 : Hid (N.h.t < M.term → N' = N ∧ L = []) := fun e => by
    have hp : toldC N M 5 = false := by rw [told_to hzr, show decide (M.term ≤ N.h.t) = false by simpa using e]; cases toM N M 5 <;> rfl
    rw [← hN', ← hL]
    exact told_not hp
  have hYes : Hid (z = true → M.term ≤ N.h.t →
      rightJ ⟨M.index, M.lterm, []⟩ = true ∧ (M.term < N.h.t → N' = N ∧ L = [fitM N.id M.fr N.h.t false la]) ∧ (N.h.t ≤ M.term → N.role = 2 → N' = N ∧ L = []) ∧
      (N.h.t ≤ M.term → ¬ N.role = 2 → M.index ≤ F.commit → N' = F ∧ L = [fitM N.id M.fr N.h.t true F.commit]) ∧
      (N.h.t ≤ M.term → ¬ N.role = 2 → F.commit < M.index → zh = false → N' = F ∧ L = [fitM N.id M.fr N.h.t false la]) ∧
      (N.h.t ≤ M.term → ¬ N.role = 2 → F.commit < M.index → zh = true → N' = ⟨F.id, ⟨F.h.t, F.h.v, AJ, M.s, M.vs⟩, F.role, F.lead, F.timer, M.index, F.got, F.ps⟩ ∧ L = [fitM N.id M.fr N.h.t true M.index])) := fun e e2 => by
    have hp : toldC N M 5 = true := by rw [told_to hzr, hz, e]; simpa using e2
    refine ⟨right_at (told_parts hp).2.1 (told_parts hp).2.2.1, ?_⟩
    rw [← hN', ← hL, ← hla, ← hzh, ← hAJ, ← hF]
    exact inst_say hp
  rw [hN', hL]
  have hFc : F.commit = N.commit := by rw [← hF]; rfl
  have hFh : F.h = N.h := by rw [← hF]; rfl
  have hFok : ∀ {w' : World}, NdOk w' B N a → NdOk w' B F aF := fun h => by
    rw [← hF, ← haF]
    exact ⟨h.recs, h.rc, h.rb, h.vs, h.vc, h.vb, h.sb, Reads.none_, Nat.le_refl _, by dsimp only; omega, Reads.none_, Nat.le_refl _, by dsimp only; omega⟩
  have haR : aF.R = a.R := by rw [← haF]
  have hAL : AJ.rs.length ≤ N.h.l.rs.length := by rw [← hAJ]; exact adopt_lenK _ _ _
  have hAD := fun (w : World) (h0 : B ≤ w.heap.size) (h1 : N.h.l.base < M.index) (h2 : rightJ ⟨M.index, M.lterm, []⟩ = true) (k1 : Recs w B a.R.A a.R.n N.h.l.rs) => refAdoptC_any N.h.l M.index M.lterm a.R.A a.R.n a.R.c w h0 (by have := hN.rb; omega) hN.rc h1 k1 hj.out h2
  rw [hAJ] at hAD
  unfold instH at hzh
  rw [hAJ] at hzh
  have hWR := fun (R V : Slc) (w : World) (k1 : R.n ≤ 140737488355328) (k2 : V.n ≤ 140737488355328) (k3 : Recs w B R.A R.n AJ.rs) (k4 : Ints w B V.A V.n M.vs) (k5 : Tab w) => HRight_any ⟨N.h.t, N.h.v, AJ, M.s, M.vs⟩ R V w k1 k2 k3 k4 k5
  rw [hzh] at hWR
  have hTo := fun (w : World) (h : MsOk w B M b) => RTo_any N a M b 5 w h
  rw [hz] at hTo
  have hLA := fun (w : World) (h : NdOk w B N a) => RLastN_any N a w h hj.out
  rw [hla] at hLA
  have hFo := fun (w : World) => RFollow_any N a M.fr d w
  rw [hF, haF] at hFo
  rw [← hFh] at hAD hWR
  rw [← haR] at hAD
  replace hFc := hid_mk hFc
  replace hFh := hid_mk hFh
  replace haR := hid_mk haR
  clear hN' hL hzr hcb hz hzh hla hAJ hF haF
  have hlN := hN.recs.len
  have hnn : a.R.n * 32 ≤ 140737488351232 := hN.rb
  unfold nodeV at hFo hLA hTo ⊢
  unfold msgV at hTo ⊢
  obtain ⟨w0, hw0⟩ : ∃ x, (((w.alloc (.cells (ndC N a) 30)).alloc (.cells (msC M b) 32)).alloc (.cells (ndC zeroN nilA) 30)) = x := ⟨_, rfl⟩
  have hB : Hid (Bxs w.heap.size w0 [⟨w.heap.size + 1 + 1, 30, ndC zeroN nilA⟩, ⟨w.heap.size + 1, 32, msC M b⟩, ⟨w.heap.size, 30, ndC N a⟩]) := by
    rw [← hw0]
    exact ((((Bxs.nil w.heap.size w).add_ rfl (by omega) 30 (ndC N a)).add_ (by simp) (by omega) 32 (msC M b)).add_ (by simp) (by omega) 30 (ndC zeroN nilA))
  have q0 : Below w.heap.size w w0 := by rw [← hw0]; go_grown
  have z0 := q0.size
  dsimp only [ndC, msC, zeroN, nilA, zeroM, nilMA] at hw0
  refine calls_of_wpQ Tryz.func21 rfl ?_
  intro Q hQ
  simp only [Tryz.ntmps21, List.size_toArray, List.length_cons, List.length_nil, Nat.reduceAdd, Nat.reduceSub, Array.replicate_succ, Array.replicate_zero, List.push_toArray, List.append_toArray, List.nil_append, List.cons_append]
  go_upto_region 1 with fail
  try rw [hw0]
  clear hw0
  have lX := blk14c (hB.out.at_ 2 rfl)
  have lM := blk11v (hB.out.at_ 1 rfl)
  go_wp2_with fail
  clear lX lM
  refine (hTo _ (hMs.to q0)).mono ?_
  rintro e w1 ⟨rfl, hb1⟩
  have q1 := (after (w := w) hb1 q0).1
  have z1 := q1.size
  replace hB := hid_mk (hB.out.keep hb1)
  clear hb1 q0 z0
  cases z
  case false =>
    exact absurd hK1.out (by decide)
  by_cases g0 : N.h.t < M.term
  case pos =>
    exact absurd g0 (by have := hK2.out; omega)
  have g0b : decide (N.h.t < M.term) = false := by simpa using g0
  replace g0 : M.term ≤ N.h.t := by omega
  obtain ⟨hsr, hyA, hyB, hyC, hyD, hyE⟩ := hYes.out rfl g0
  replace hsr := hid_mk hsr
  replace hyA := hid_mk hyA
  replace hyB := hid_mk hyB
  replace hyC := hid_mk hyC
  replace hyD := hid_mk hyD
  replace hyE := hid_mk hyE
  clear hYes hNo1 hNo2 hTo
  replace g0 := hid_mk g0
  by_cases g1 : M.term = N.h.t
  case neg =>
    exact absurd hK2.out g1
  have g1b : (M.term == N.h.t) = true := by simpa using g1
  have g1c : N.h.t ≤ M.term := by omega
  replace g1c := hid_mk g1c
  have g1e : ¬ M.term < N.h.t := by omega
  have g1d : decide (M.term < N.h.t) = false := by simpa using g1e
  replace g1e := hid_mk g1e
  replace g1 := hid_mk g1
  by_cases g2 : N.role = 2
  case pos =>
    exact absurd g2 hK3.out
  have g2b : (N.role == 2) = false := by simpa using g2
  replace g2 := hid_mk g2
  have lX := blk14f (hB.out.at_ 2 rfl)
  have lM := blk11f (hB.out.at_ 1 rfl)
  go_upto_region 3 with fail
  clear lX lM
  go_cut [8] from 36 (fun p8 wx => ∃ gA : Nat, p8 = .pointer (some ⟨gA, 0, none⟩) ∧ w.heap.size ≤ gA ∧ Below w.heap.size w wx ∧ Hid (Bxs w.heap.size wx [⟨gA, 32, msC (fitM N.id M.fr N.h.t false la) nilMA⟩, ⟨w.heap.size + 1 + 1, 30, ndC zeroN nilA⟩, ⟨w.heap.size + 1, 32, msC M b⟩, ⟨w.heap.size, 30, ndC N a⟩]))
  case first =>
    refine regm (fun w' => AtN w' (w.heap.size) N a ∧ w'.cell? ⟨w.heap.size + 1, 1, none⟩ = some (.int .i64 M.fr)) 12 12 [(0, 0), (1, 1), (0, 0), (4, 4), (0, 0), (16, 16), (32, 32), (0, 0), (128, 128), (330, 330), (0, 0), (2047, 1536)] (by exact And.intro ((hB.out.at_ 2 rfl).atN) ((hB.out.at_ 1 rfl).cell 1)) (fun hS0 hR => ?_)
    replace hB := hid_mk hB.out.drew
    have qd : Below w.heap.size w w1.drew := by go_grown
    obtain ⟨wd, hwd⟩ : ∃ x, w1.drew = x := ⟨_, rfl⟩
    rw [hwd] at hS0 hB  qd ⊢
    clear hwd q1 z1
    have zd := qd.size
    refine tkn (i := 0) hR hS0 (h := ?_)
    refine tkn (i := 1) hR hS0 (h := ?_)
    refine tkn (i := 2) hR hS0 (h := ?_)
    refine tkn (i := 3) hR hS0 (h := ?_)
    refine tkn (i := 4) hR hS0 (h := ?_)
    simp only [Act.put]
    refine tkn (i := 5) hR hS0 (h := ?_)
    refine tkn (i := 6) hR hS0 (h := ?_)
    refine tkn (i := 7) hR hS0 (h := ?_)
    refine twom (i := 8) (j := 10) hR (h := fun K hK => ?_) (h' := fun K hK => ?_)
    · go_simp
      refine (hLA _ (hN.to qd)).mono ?_
      rintro e wL ⟨rfl, hb1⟩
      have qL := (after (w := w) hb1 qd).1
      replace hB := hid_mk (hB.out.keep hb1)
      clear hb1
      have hS1 := And.intro ((hB.out.at_ 2 rfl).atN) ((hB.out.at_ 1 rfl).cell 1)
      refine hK.out _ _ (fun _ => hS1) ?_
      clear hK K hS0
      have hS0 := hS1
      clear hS1
      refine tkn (i := 9) hR hS0 (h := ?_)
      refine onem (i := 10) hR (h := fun K hK => ?_)
      go_simp
      obtain ⟨gA, hgA⟩ : ∃ g, wL.heap.size = g := ⟨_, rfl⟩
      have lgA : w.heap.size ≤ gA := by rw [← hgA]; exact qL.size
      replace hB := hid_mk (hB.out.add_ hgA lgA 32 (msC zeroM nilMA))
      have qA := qL.alloc qL.size (.cells (msC zeroM nilMA) 32)
      obtain ⟨wA, hwA⟩ : ∃ x, wL.alloc (.cells (msC zeroM nilMA) 32) = x := ⟨_, rfl⟩
      rw [hwA] at hB  qA
      dsimp only [ndC, msC, zeroN, nilA, zeroM, nilMA] at hwA
      rw [hwA, hgA]
      clear hwA hgA
      have hS1 := And.intro ((hB.out.at_ 3 rfl).atN) ((hB.out.at_ 2 rfl).cell 1)
      refine hK.out _ _ (fun _ => hS1) ?_
      clear hK K hS0
      have hS0 := hS1
      clear hS1
      have lA := blk11f (hB.out.at_ 0 rfl)
      refine onem (i := 11) hR (h := fun K hK => ?_)
      go_simp
      clear lA
      have qz := setM_below (fitM N.id M.fr N.h.t false la) nilMA qA lgA
      have hBn := hB.out.setM 0 rfl (fitM N.id M.fr N.h.t false la) nilMA
      obtain ⟨wz, hwz⟩ : ∃ x, setM wA gA (fitM N.id M.fr N.h.t false la) nilMA = x := ⟨_, rfl⟩
      rw [hwz] at hBn qz
      replace hB : Hid (Bxs w.heap.size wz [⟨gA, 32, msC (fitM N.id M.fr N.h.t false la) nilMA⟩, ⟨w.heap.size + 1 + 1, 30, ndC zeroN nilA⟩, ⟨w.heap.size + 1, 32, msC M b⟩, ⟨w.heap.size, 30, ndC N a⟩]) := hid_mk hBn
      clear hBn
      unfold setM st11 fitM nilMA at hwz
      dsimp only at hwz
      rw [hwz]
      clear hwz
      have hS1 := And.intro ((hB.out.at_ 3 rfl).atN) ((hB.out.at_ 2 rfl).cell 1)
      refine hK.out _ _ (fun _ => hS1) ?_
      clear hK K hS0
      have hS0 := hS1
      clear hS1
      refine donem hR (h := ?_)
      try simp only [Act.put]
      go_wp2_with fail
      go_meet
      exact ⟨gA, rfl, lgA, qz, hB⟩
    · go_simp
      obtain ⟨gA, hgA⟩ : ∃ g, wd.heap.size = g := ⟨_, rfl⟩
      have lgA : w.heap.size ≤ gA := by rw [← hgA]; exact qd.size
      replace hB := hid_mk (hB.out.add_ hgA lgA 32 (msC zeroM nilMA))
      have qA := qd.alloc qd.size (.cells (msC zeroM nilMA) 32)
      obtain ⟨wA, hwA⟩ : ∃ x, wd.alloc (.cells (msC zeroM nilMA) 32) = x := ⟨_, rfl⟩
      rw [hwA] at hB  qA
      dsimp only [ndC, msC, zeroN, nilA, zeroM, nilMA] at hwA
      rw [hwA, hgA]
      clear hwA hgA
      have hS1 := And.intro ((hB.out.at_ 3 rfl).atN) ((hB.out.at_ 2 rfl).cell 1)
      refine hK.out _ _ (fun _ => hS1) ?_
      clear hK K hS0
      have hS0 := hS1
      clear hS1
      refine onem (i := 8) hR (h := fun K hK => ?_)
      go_simp
      refine (hLA _ (hN.to qA)).mono ?_
      rintro e wL ⟨rfl, hb1⟩
      have qL := (after (w := w) hb1 qA).1
      replace hB := hid_mk (hB.out.keep hb1)
      clear hb1
      have hS1 := And.intro ((hB.out.at_ 3 rfl).atN) ((hB.out.at_ 2 rfl).cell 1)
      refine hK.out _ _ (fun _ => hS1) ?_
      clear hK K hS0
      have hS0 := hS1
      clear hS1
      refine tkn (i := 9) hR hS0 (h := ?_)
      have lA := blk11f (hB.out.at_ 0 rfl)
      refine onem (i := 11) hR (h := fun K hK => ?_)
      go_simp
      clear lA
      have qz := setM_below (fitM N.id M.fr N.h.t false la) nilMA qL lgA
      have hBn := hB.out.setM 0 rfl (fitM N.id M.fr N.h.t false la) nilMA
      obtain ⟨wz, hwz⟩ : ∃ x, setM wL gA (fitM N.id M.fr N.h.t false la) nilMA = x := ⟨_, rfl⟩
      rw [hwz] at hBn qz
      replace hB : Hid (Bxs w.heap.size wz [⟨gA, 32, msC (fitM N.id M.fr N.h.t false la) nilMA⟩, ⟨w.heap.size + 1 + 1, 30, ndC zeroN nilA⟩, ⟨w.heap.size + 1, 32, msC M b⟩, ⟨w.heap.size, 30, ndC N a⟩]) := hid_mk hBn
      clear hBn
      unfold setM st11 fitM nilMA at hwz
      dsimp only at hwz
      rw [hwz]
      clear hwz
      have hS1 := And.intro ((hB.out.at_ 3 rfl).atN) ((hB.out.at_ 2 rfl).cell 1)
      refine hK.out _ _ (fun _ => hS1) ?_
      clear hK K hS0
      have hS0 := hS1
      clear hS1
      refine donem hR (h := ?_)
      try simp only [Act.put]
      go_wp2_with fail
      go_meet
      exact ⟨gA, rfl, lgA, qz, hB⟩
  case rest =>
    clear hB q1
    obtain ⟨gA, rfl, lgA, q2, hB⟩ := hcut
    obtain ⟨w2, hwc⟩ : ∃ x, x = wc := ⟨wc, rfl⟩
    subst hwc
    have z2 := q2.size
    have lX := blk14c (hB.out.at_ 3 rfl)
    have lM := blk11v (hB.out.at_ 2 rfl)
    go_wp2_with fail
    clear lX lM
    refine (hFo _).mono ?_
    rintro e w3 ⟨rfl, hb1⟩
    have q3 := (after (w := w) hb1 q2).1
    have z3 := q3.size
    replace hB := hid_mk (hB.out.keep hb1)
    clear hb1 q2 z2
    have lX := blk14f (hB.out.at_ 3 rfl)
    go_upto_region 7 with fail
    clear lX
    have q4 := setN_below F aF q3 (by omega : w.heap.size ≤ w.heap.size)
    have hBn := hB.out.setN 3 rfl F aF
    obtain ⟨w4, hwz⟩ : ∃ x, setN w3 (w.heap.size) F aF = x := ⟨_, rfl⟩
    rw [hwz] at q4 hBn
    unfold setN set14 at hwz
    try rw [hwz]
    clear hwz
    replace hB : Hid (Bxs w.heap.size w4 [⟨gA, 32, msC (fitM N.id M.fr N.h.t false la) nilMA⟩, ⟨w.heap.size + 1 + 1, 30, ndC zeroN nilA⟩, ⟨w.heap.size + 1, 32, msC M b⟩, ⟨w.heap.size, 30, ndC F aF⟩]) := hid_mk hBn
    clear hBn
    have z4 := q4.size
    clear q3 z3
    by_cases g3 : M.index ≤ F.commit
    case pos =>
      exact absurd g3 (by have := hFc.out; have := hK4.out; omega)
    have g3b : decide (M.index ≤ F.commit) = false := by simpa using g3
    replace g3 : F.commit < M.index := by omega
    have hbi : N.h.l.base < M.index := by have := hFc.out; omega
    replace g3 := hid_mk g3
    have lX := blk14f (hB.out.at_ 3 rfl)
    have lM := blk11f (hB.out.at_ 2 rfl)
    obtain ⟨gO, hgO⟩ : ∃ g, w4.heap.size = g := ⟨_, rfl⟩
    have lgO : w.heap.size ≤ gO := by rw [← hgO]; exact q4.size
    replace hB := hid_mk (hB.out.add_ hgO lgO 30 (ndC F aF))
    have q9 := q4.alloc q4.size (.cells (ndC F aF) 30)
    obtain ⟨w9, hw9⟩ : ∃ x, w4.alloc (.cells (ndC F aF) 30) = x := ⟨_, rfl⟩
    rw [hw9] at hB q9
    unfold ndC at hw9
    replace hw9 := hid_mk hw9
    replace hgO := hid_mk hgO
    go_upto_region 12 with fail
    try rw [hw9.out]
    try rw [hgO.out]
    clear lX lM hw9 hgO q4 z4
    have z9 := q9.size
    have lX := blk14c (hB.out.at_ 4 rfl)
    have lM := blk11v (hB.out.at_ 3 rfl)
    have lO := blk14c (hB.out.at_ 0 rfl)
    go_wp2_with fail
    clear lX lM lO
    refine (hAD _ (by omega) (by rw [hFh.out]; exact hbi) hsr.out (by rw [hFh.out, haR.out]; exact hN.recs.to q9)).mono ?_
    rintro e w10 ⟨LA, ln, Lc, rfl, hLr, hlc, _, hb1⟩
    have q10 := (after (w := w) hb1 q9).1
    have z10 := q10.size
    replace hB := hid_mk (hB.out.keep hb1)
    clear hb1 q9 z9
    unfold logV
    dsimp only at hLr ⊢
    have hln : ln ≤ a.R.n := by have := hLr.len; omega
    replace hLr := hid_mk hLr
    have nO1 : ¬ gO = w.heap.size + 1 := pw_ne hB.out.2 (i := 0) (j := 3) rfl rfl (by decide)
    have nO2 : ¬ w.heap.size + 1 = gO := fun e => nO1 e.symm
    have lX := blk14f (hB.out.at_ 4 rfl)
    have lM := blk11f (hB.out.at_ 3 rfl)
    have lO := blk14f (hB.out.at_ 0 rfl)
    go_upto_region 16 with fail
    clear lX lM lO nO1 nO2
    have hBn : Bxs w.heap.size ((((((w10.setCell ⟨gO, 3, none⟩ (.int .i64 AJ.base)).setCell ⟨gO, 4, none⟩ (.int .i64 AJ.bt)).setCell ⟨gO, 5, none⟩ (.slice LA ln Lc)).setCell ⟨gO, 6, none⟩ (.string M.s)).setCell ⟨gO, 7, none⟩ (.slice b.V.A b.V.n b.V.c)).setCell ⟨gO, 11, none⟩ (.int .i64 M.index)) [⟨gO, 30, ndC ⟨F.id, ⟨F.h.t, F.h.v, AJ, M.s, M.vs⟩, F.role, F.lead, F.timer, M.index, F.got, F.ps⟩ ⟨⟨LA, ln, Lc⟩, b.V, aF.G, aF.P⟩⟩, ⟨gA, 32, msC (fitM N.id M.fr N.h.t false la) nilMA⟩, ⟨w.heap.size + 1 + 1, 30, ndC zeroN nilA⟩, ⟨w.heap.size + 1, 32, msC M b⟩, ⟨w.heap.size, 30, ndC F aF⟩] := ((((((hB.out.set 0 rfl 3 (.int .i64 AJ.base)).set 0 rfl 4 (.int .i64 AJ.bt)).set 0 rfl 5 (.slice LA ln Lc)).set 0 rfl 6 (.string M.s)).set 0 rfl 7 (.slice b.V.A b.V.n b.V.c)).set 0 rfl 11 (.int .i64 M.index))
    have q11 := ((((((q10.setCell (p := ⟨gO, 3, none⟩) (by dsimp only; omega) (.int .i64 AJ.base)).setCell (p := ⟨gO, 4, none⟩) (by dsimp only; omega) (.int .i64 AJ.bt)).setCell (p := ⟨gO, 5, none⟩) (by dsimp only; omega) (.slice LA ln Lc)).setCell (p := ⟨gO, 6, none⟩) (by dsimp only; omega) (.string M.s)).setCell (p := ⟨gO, 7, none⟩) (by dsimp only; omega) (.slice b.V.A b.V.n b.V.c)).setCell (p := ⟨gO, 11, none⟩) (by dsimp only; omega) (.int .i64 M.index))
    have hLrn : Recs ((((((w10.setCell ⟨gO, 3, none⟩ (.int .i64 AJ.base)).setCell ⟨gO, 4, none⟩ (.int .i64 AJ.bt)).setCell ⟨gO, 5, none⟩ (.slice LA ln Lc)).setCell ⟨gO, 6, none⟩ (.string M.s)).setCell ⟨gO, 7, none⟩ (.slice b.V.A b.V.n b.V.c)).setCell ⟨gO, 11, none⟩ (.int .i64 M.index)) B LA ln AJ.rs := (Reads.far (Reads.far (Reads.far (Reads.far (Reads.far (Reads.far hLr.out (hB.out.at_ 0 rfl) (by dsimp only; omega) (by dsimp only; decide) 3 (.int .i64 AJ.base)) ((hB.out.set 0 rfl 3 (.int .i64 AJ.base)).at_ 0 rfl) (by dsimp only; omega) (by dsimp only; decide) 4 (.int .i64 AJ.bt)) (((hB.out.set 0 rfl 3 (.int .i64 AJ.base)).set 0 rfl 4 (.int .i64 AJ.bt)).at_ 0 rfl) (by dsimp only; omega) (by dsimp only; decide) 5 (.slice LA ln Lc)) ((((hB.out.set 0 rfl 3 (.int .i64 AJ.base)).set 0 rfl 4 (.int .i64 AJ.bt)).set 0 rfl 5 (.slice LA ln Lc)).at_ 0 rfl) (by dsimp only; omega) (by dsimp only; decide) 6 (.string M.s)) (((((hB.out.set 0 rfl 3 (.int .i64 AJ.base)).set 0 rfl 4 (.int .i64 AJ.bt)).set 0 rfl 5 (.slice LA ln Lc)).set 0 rfl 6 (.string M.s)).at_ 0 rfl) (by dsimp only; omega) (by dsimp only; decide) 7 (.slice b.V.A b.V.n b.V.c)) ((((((hB.out.set 0 rfl 3 (.int .i64 AJ.base)).set 0 rfl 4 (.int .i64 AJ.bt)).set 0 rfl 5 (.slice LA ln Lc)).set 0 rfl 6 (.string M.s)).set 0 rfl 7 (.slice b.V.A b.V.n b.V.c)).at_ 0 rfl) (by dsimp only; omega) (by dsimp only; decide) 11 (.int .i64 M.index))
    obtain ⟨w11, hwz⟩ : ∃ x, ((((((w10.setCell ⟨gO, 3, none⟩ (.int .i64 AJ.base)).setCell ⟨gO, 4, none⟩ (.int .i64 AJ.bt)).setCell ⟨gO, 5, none⟩ (.slice LA ln Lc)).setCell ⟨gO, 6, none⟩ (.string M.s)).setCell ⟨gO, 7, none⟩ (.slice b.V.A b.V.n b.V.c)).setCell ⟨gO, 11, none⟩ (.int .i64 M.index)) = x := ⟨_, rfl⟩
    rw [hwz] at hBn q11 hLrn
    try rw [hwz]
    clear hwz
    replace hB := hid_mk hBn
    clear hBn
    replace hLr := hid_mk hLrn
    clear hLrn
    have z11 := q11.size
    clear q10 z10
    have lO := blk14c (hB.out.at_ 0 rfl)
    go_wp2_with fail
    clear lO
    refine (hWR ⟨LA, ln, Lc⟩ b.V _ (by dsimp only; omega) (by have := hMs.vb; omega) hLr.out (hMs.vs.to q11) (ht.to q11)).mono ?_
    rintro e w12 ⟨rfl, hb1⟩
    have q12 := (after (w := w) hb1 q11).1
    have z12 := q12.size
    replace hB := hid_mk (hB.out.keep hb1)
    replace hLr := hid_mk (hLr.out.to hb1)
    clear hb1 q11 z11
    cases zh
    case false =>
      have hfi := hid_mk (hyD.out g1c.out g2.out g3.out rfl)
      have hfin := hid_mk (hfi.out)
      have lX := blk14f (hB.out.at_ 4 rfl)
      have lY := blk14f (hB.out.at_ 2 rfl)
      have lA := blk11f (hB.out.at_ 1 rfl)
      have lM := blk11f (hB.out.at_ 3 rfl)
      go_upto_region 17 with fail
      clear lX lY lA lM
      refine regm (fun w' => AtN w' (w.heap.size) F aF ∧ AtM w' gA (fitM N.id M.fr N.h.t false la) nilMA) 5 5 [(0, 0), (0, 0), (2, 2), (1, 1), (15, 4)] (by exact And.intro ((hB.out.at_ 4 rfl).atN) ((hB.out.at_ 1 rfl).atM)) (fun hS0 hR => ?_)
      replace hB := hid_mk hB.out.drew
      have qd : Below w.heap.size w w12.drew := by go_grown
      obtain ⟨wd, hwd⟩ : ∃ x, w12.drew = x := ⟨_, rfl⟩
      rw [hwd] at hS0 hB  qd ⊢
      clear hwd q12 z12
      have zd := qd.size
      refine tkn (i := 0) hR hS0 (h := ?_)
      refine tkn (i := 1) hR hS0 (h := ?_)
      have lY := blk14f (hB.out.at_ 2 rfl)
      refine twom (i := 2) (j := 3) hR (h := fun K hK => ?_) (h' := fun K hK => ?_)
      · go_simp
        clear lY
        obtain ⟨gS, hgS⟩ : ∃ g, wd.heap.size = g := ⟨_, rfl⟩
        have hL1 : Hid (Mgs (wd.alloc (.cells (msC (fitM N.id M.fr N.h.t false la) nilMA) 32)) 0 (some ⟨gS, 0, none⟩) 1 [((fitM N.id M.fr N.h.t false la), nilMA)]) := by rw [← hgS]; exact mgs_box (Blk.new _ _ _) (fitM_ok _ _ _ _ _)
        replace hB := hid_mk (hB.out.other (.cells (msC (fitM N.id M.fr N.h.t false la) nilMA) 32))
        have qS := qd.alloc qd.size (.cells (msC (fitM N.id M.fr N.h.t false la) nilMA) 32)
        obtain ⟨wS, hwS⟩ : ∃ x, wd.alloc (.cells (msC (fitM N.id M.fr N.h.t false la) nilMA) 32) = x := ⟨_, rfl⟩
        rw [hwS] at hL1 hB  qS
        unfold msC at hwS
        rw [hwS, hgS]
        clear hgS hwS
        have hS1 := And.intro ((hB.out.at_ 4 rfl).atN) ((hB.out.at_ 1 rfl).atM)
        refine hK.out _ _ (fun _ => hS1) ?_
        clear hK K hS0
        have hS0 := hS1
        clear hS1
        have lY := blk14f (hB.out.at_ 2 rfl)
        refine onem (i := 3) hR (h := fun K hK => ?_)
        go_simp
        clear lY
        replace hL1 := hid_mk (mgs_setN hL1.out (hB.out.at_ 2 rfl) (Nat.zero_le _) F aF)
        have qz := setN_below F aF qS (by omega : w.heap.size ≤ w.heap.size + 1 + 1)
        have hBn := hB.out.setN 2 rfl F aF
        obtain ⟨wz, hwz⟩ : ∃ x, setN wS (w.heap.size + 1 + 1) F aF = x := ⟨_, rfl⟩
        rw [hwz] at hBn  qz hL1
        replace hB : Hid (Bxs w.heap.size wz [⟨gO, 30, ndC ⟨F.id, ⟨F.h.t, F.h.v, AJ, M.s, M.vs⟩, F.role, F.lead, F.timer, M.index, F.got, F.ps⟩ ⟨⟨LA, ln, Lc⟩, b.V, aF.G, aF.P⟩⟩, ⟨gA, 32, msC (fitM N.id M.fr N.h.t false la) nilMA⟩, ⟨w.heap.size + 1 + 1, 30, ndC F aF⟩, ⟨w.heap.size + 1, 32, msC M b⟩, ⟨w.heap.size, 30, ndC F aF⟩]) := hid_mk hBn
        clear hBn
        unfold setN set14 at hwz
        rw [hwz]
        clear hwz
        have hS1 := And.intro ((hB.out.at_ 4 rfl).atN) ((hB.out.at_ 1 rfl).atM)
        refine hK.out _ _ (fun _ => hS1) ?_
        clear hK K hS0
        have hS0 := hS1
        clear hS1
        refine onem (i := 4) hR (h := fun K hK => ?_)
        go_simp
        have hS1 := And.intro ((hB.out.at_ 4 rfl).atN) ((hB.out.at_ 1 rfl).atM)
        refine hK.out _ _ (fun _ => hS1) ?_
        clear hK K hS0
        have hS0 := hS1
        clear hS1
        refine donem hR (h := ?_)
        try simp only [Act.put]
        have lY := blk14c (hB.out.at_ 2 rfl)
        go_wp2
        refine ends_ret hQ (v := .tuple #[.agg (ndC F aF), .slice (some ⟨gS, 0, none⟩) 1 1]) (by simp [results, Tryz.results21, go_sem, lY, ndC]) rfl ?_
        exact ⟨aF, some ⟨gS, 0, none⟩, 1, 1, by rw [hfin.out.1]; rfl, by (rw [hfin.out.1]; exact hFok (hN.to qz)), by rw [hfin.out.2]; exact hL1.out, Nat.le_refl _, qz⟩
      · go_simp
        clear lY
        have qS := setN_below F aF qd (by omega : w.heap.size ≤ w.heap.size + 1 + 1)
        have hBn := hB.out.setN 2 rfl F aF
        obtain ⟨wS, hwz⟩ : ∃ x, setN wd (w.heap.size + 1 + 1) F aF = x := ⟨_, rfl⟩
        rw [hwz] at hBn  qS
        replace hB : Hid (Bxs w.heap.size wS [⟨gO, 30, ndC ⟨F.id, ⟨F.h.t, F.h.v, AJ, M.s, M.vs⟩, F.role, F.lead, F.timer, M.index, F.got, F.ps⟩ ⟨⟨LA, ln, Lc⟩, b.V, aF.G, aF.P⟩⟩, ⟨gA, 32, msC (fitM N.id M.fr N.h.t false la) nilMA⟩, ⟨w.heap.size + 1 + 1, 30, ndC F aF⟩, ⟨w.heap.size + 1, 32, msC M b⟩, ⟨w.heap.size, 30, ndC F aF⟩]) := hid_mk hBn
        clear hBn
        unfold setN set14 at hwz
        rw [hwz]
        clear hwz
        have hS1 := And.intro ((hB.out.at_ 4 rfl).atN) ((hB.out.at_ 1 rfl).atM)
        refine hK.out _ _ (fun _ => hS1) ?_
        clear hK K hS0
        have hS0 := hS1
        clear hS1
        refine onem (i := 2) hR (h := fun K hK => ?_)
        go_simp
        obtain ⟨gS, hgS⟩ : ∃ g, wS.heap.size = g := ⟨_, rfl⟩
        have hL1 : Hid (Mgs (wS.alloc (.cells (msC (fitM N.id M.fr N.h.t false la) nilMA) 32)) 0 (some ⟨gS, 0, none⟩) 1 [((fitM N.id M.fr N.h.t false la), nilMA)]) := by rw [← hgS]; exact mgs_box (Blk.new _ _ _) (fitM_ok _ _ _ _ _)
        replace hB := hid_mk (hB.out.other (.cells (msC (fitM N.id M.fr N.h.t false la) nilMA) 32))
        have qz := qS.alloc qS.size (.cells (msC (fitM N.id M.fr N.h.t false la) nilMA) 32)
        obtain ⟨wz, hwS⟩ : ∃ x, wS.alloc (.cells (msC (fitM N.id M.fr N.h.t false la) nilMA) 32) = x := ⟨_, rfl⟩
        rw [hwS] at hL1 hB  qz
        unfold msC at hwS
        rw [hwS, hgS]
        clear hgS hwS
        have hS1 := And.intro ((hB.out.at_ 4 rfl).atN) ((hB.out.at_ 1 rfl).atM)
        refine hK.out _ _ (fun _ => hS1) ?_
        clear hK K hS0
        have hS0 := hS1
        clear hS1
        refine onem (i := 4) hR (h := fun K hK => ?_)
        go_simp
        have hS1 := And.intro ((hB.out.at_ 4 rfl).atN) ((hB.out.at_ 1 rfl).atM)
        refine hK.out _ _ (fun _ => hS1) ?_
        clear hK K hS0
        have hS0 := hS1
        clear hS1
        refine donem hR (h := ?_)
        try simp only [Act.put]
        have lY := blk14c (hB.out.at_ 2 rfl)
        go_wp2
        refine ends_ret hQ (v := .tuple #[.agg (ndC F aF), .slice (some ⟨gS, 0, none⟩) 1 1]) (by simp [results, Tryz.results21, go_sem, lY, ndC]) rfl ?_
        exact ⟨aF, some ⟨gS, 0, none⟩, 1, 1, by rw [hfin.out.1]; rfl, by (rw [hfin.out.1]; exact hFok (hN.to qz)), by rw [hfin.out.2]; exact hL1.out, Nat.le_refl _, qz⟩
    have hfi := hid_mk (hyE.out g1c.out g2.out g3.out rfl)
    have lM := blk11f (hB.out.at_ 3 rfl)
    have lA := blk11f (hB.out.at_ 1 rfl)
    go_upto_region 20 with fail
    clear lM lA
    have hBn : Bxs w.heap.size ((w12.setCell ⟨gA, 4, none⟩ (.bool true)).setCell ⟨gA, 5, none⟩ (.int .i64 M.index)) [⟨gO, 30, ndC ⟨F.id, ⟨F.h.t, F.h.v, AJ, M.s, M.vs⟩, F.role, F.lead, F.timer, M.index, F.got, F.ps⟩ ⟨⟨LA, ln, Lc⟩, b.V, aF.G, aF.P⟩⟩, ⟨gA, 32, msC (fitM N.id M.fr N.h.t true M.index) nilMA⟩, ⟨w.heap.size + 1 + 1, 30, ndC zeroN nilA⟩, ⟨w.heap.size + 1, 32, msC M b⟩, ⟨w.heap.size, 30, ndC F aF⟩] := ((hB.out.set 1 rfl 4 (.bool true)).set 1 rfl 5 (.int .i64 M.index))
    have q13 := ((q12.setCell (p := ⟨gA, 4, none⟩) (by dsimp only; omega) (.bool true)).setCell (p := ⟨gA, 5, none⟩) (by dsimp only; omega) (.int .i64 M.index))
    have hLrn : Recs ((w12.setCell ⟨gA, 4, none⟩ (.bool true)).setCell ⟨gA, 5, none⟩ (.int .i64 M.index)) B LA ln AJ.rs := (Reads.far (Reads.far hLr.out (hB.out.at_ 1 rfl) (by dsimp only; omega) (by dsimp only; decide) 4 (.bool true)) ((hB.out.set 1 rfl 4 (.bool true)).at_ 1 rfl) (by dsimp only; omega) (by dsimp only; decide) 5 (.int .i64 M.index))
    obtain ⟨w13, hwz⟩ : ∃ x, ((w12.setCell ⟨gA, 4, none⟩ (.bool true)).setCell ⟨gA, 5, none⟩ (.int .i64 M.index)) = x := ⟨_, rfl⟩
    rw [hwz] at hBn q13 hLrn
    try rw [hwz]
    clear hwz
    replace hB := hid_mk hBn
    clear hBn
    replace hLr := hid_mk hLrn
    clear hLrn
    have z13 := q13.size
    clear q12 z12
    have hfin := hid_mk (hfi.out)
    have lX := blk14f (hB.out.at_ 4 rfl)
    have lY := blk14f (hB.out.at_ 2 rfl)
    have lA := blk11f (hB.out.at_ 1 rfl)
    have lM := blk11f (hB.out.at_ 3 rfl)
    have lO := blk14f (hB.out.at_ 0 rfl)
    go_upto_region 20 with fail
    clear lX lY lA lM lO
    refine regm (fun w' => AtN w' (gO) ⟨F.id, ⟨F.h.t, F.h.v, AJ, M.s, M.vs⟩, F.role, F.lead, F.timer, M.index, F.got, F.ps⟩ ⟨⟨LA, ln, Lc⟩, b.V, aF.G, aF.P⟩ ∧ AtM w' gA (fitM N.id M.fr N.h.t true M.index) nilMA) 5 5 [(0, 0), (0, 0), (2, 2), (1, 1), (15, 4)] (by exact And.intro ((hB.out.at_ 0 rfl).atN) ((hB.out.at_ 1 rfl).atM)) (fun hS0 hR => ?_)
    replace hB := hid_mk hB.out.drew
    replace hLr := hid_mk (hLr.out.to (show Below w13.heap.size w13 w13.drew by go_grown))
    have qd : Below w.heap.size w w13.drew := by go_grown
    obtain ⟨wd, hwd⟩ : ∃ x, w13.drew = x := ⟨_, rfl⟩
    rw [hwd] at hS0 hB hLr qd ⊢
    clear hwd q13 z13
    have zd := qd.size
    refine tkn (i := 0) hR hS0 (h := ?_)
    refine tkn (i := 1) hR hS0 (h := ?_)
    have lY := blk14f (hB.out.at_ 2 rfl)
    refine twom (i := 2) (j := 3) hR (h := fun K hK => ?_) (h' := fun K hK => ?_)
    · go_simp
      clear lY
      obtain ⟨gS, hgS⟩ : ∃ g, wd.heap.size = g := ⟨_, rfl⟩
      have hL1 : Hid (Mgs (wd.alloc (.cells (msC (fitM N.id M.fr N.h.t true M.index) nilMA) 32)) 0 (some ⟨gS, 0, none⟩) 1 [((fitM N.id M.fr N.h.t true M.index), nilMA)]) := by rw [← hgS]; exact mgs_box (Blk.new _ _ _) (fitM_ok _ _ _ _ _)
      replace hB := hid_mk (hB.out.other (.cells (msC (fitM N.id M.fr N.h.t true M.index) nilMA) 32))
      replace hLr := hid_mk (hLr.out.to ((Below.refl _ wd).alloc (Nat.le_refl _) (.cells (msC (fitM N.id M.fr N.h.t true M.index) nilMA) 32)))
      have qS := qd.alloc qd.size (.cells (msC (fitM N.id M.fr N.h.t true M.index) nilMA) 32)
      obtain ⟨wS, hwS⟩ : ∃ x, wd.alloc (.cells (msC (fitM N.id M.fr N.h.t true M.index) nilMA) 32) = x := ⟨_, rfl⟩
      rw [hwS] at hL1 hB hLr qS
      unfold msC at hwS
      rw [hwS, hgS]
      clear hgS hwS
      have hS1 := And.intro ((hB.out.at_ 0 rfl).atN) ((hB.out.at_ 1 rfl).atM)
      refine hK.out _ _ (fun _ => hS1) ?_
      clear hK K hS0
      have hS0 := hS1
      clear hS1
      have lY := blk14f (hB.out.at_ 2 rfl)
      refine onem (i := 3) hR (h := fun K hK => ?_)
      go_simp
      clear lY
      replace hL1 := hid_mk (mgs_setN hL1.out (hB.out.at_ 2 rfl) (Nat.zero_le _) ⟨F.id, ⟨F.h.t, F.h.v, AJ, M.s, M.vs⟩, F.role, F.lead, F.timer, M.index, F.got, F.ps⟩ ⟨⟨LA, ln, Lc⟩, b.V, aF.G, aF.P⟩)
      have qz := setN_below ⟨F.id, ⟨F.h.t, F.h.v, AJ, M.s, M.vs⟩, F.role, F.lead, F.timer, M.index, F.got, F.ps⟩ ⟨⟨LA, ln, Lc⟩, b.V, aF.G, aF.P⟩ qS (by omega : w.heap.size ≤ w.heap.size + 1 + 1)
      replace hLr := hid_mk (Reads.kr hLr.out (.inr (.inl rfl)) (setN_kr (B := B) ⟨F.id, ⟨F.h.t, F.h.v, AJ, M.s, M.vs⟩, F.role, F.lead, F.timer, M.index, F.got, F.ps⟩ ⟨⟨LA, ln, Lc⟩, b.V, aF.G, aF.P⟩ (hB.out.at_ 2 rfl) (by dsimp only; omega)))
      have hBn := hB.out.setN 2 rfl ⟨F.id, ⟨F.h.t, F.h.v, AJ, M.s, M.vs⟩, F.role, F.lead, F.timer, M.index, F.got, F.ps⟩ ⟨⟨LA, ln, Lc⟩, b.V, aF.G, aF.P⟩
      obtain ⟨wz, hwz⟩ : ∃ x, setN wS (w.heap.size + 1 + 1) ⟨F.id, ⟨F.h.t, F.h.v, AJ, M.s, M.vs⟩, F.role, F.lead, F.timer, M.index, F.got, F.ps⟩ ⟨⟨LA, ln, Lc⟩, b.V, aF.G, aF.P⟩ = x := ⟨_, rfl⟩
      rw [hwz] at hBn hLr qz hL1
      replace hB : Hid (Bxs w.heap.size wz [⟨gO, 30, ndC ⟨F.id, ⟨F.h.t, F.h.v, AJ, M.s, M.vs⟩, F.role, F.lead, F.timer, M.index, F.got, F.ps⟩ ⟨⟨LA, ln, Lc⟩, b.V, aF.G, aF.P⟩⟩, ⟨gA, 32, msC (fitM N.id M.fr N.h.t true M.index) nilMA⟩, ⟨w.heap.size + 1 + 1, 30, ndC ⟨F.id, ⟨F.h.t, F.h.v, AJ, M.s, M.vs⟩, F.role, F.lead, F.timer, M.index, F.got, F.ps⟩ ⟨⟨LA, ln, Lc⟩, b.V, aF.G, aF.P⟩⟩, ⟨w.heap.size + 1, 32, msC M b⟩, ⟨w.heap.size, 30, ndC F aF⟩]) := hid_mk hBn
      clear hBn
      unfold setN set14 at hwz
      rw [hwz]
      clear hwz
      have hS1 := And.intro ((hB.out.at_ 0 rfl).atN) ((hB.out.at_ 1 rfl).atM)
      refine hK.out _ _ (fun _ => hS1) ?_
      clear hK K hS0
      have hS0 := hS1
      clear hS1
      refine onem (i := 4) hR (h := fun K hK => ?_)
      go_simp
      have hS1 := And.intro ((hB.out.at_ 0 rfl).atN) ((hB.out.at_ 1 rfl).atM)
      refine hK.out _ _ (fun _ => hS1) ?_
      clear hK K hS0
      have hS0 := hS1
      clear hS1
      refine donem hR (h := ?_)
      try simp only [Act.put]
      have lY := blk14c (hB.out.at_ 2 rfl)
      go_wp2
      refine ends_ret hQ (v := .tuple #[.agg (ndC ⟨F.id, ⟨F.h.t, F.h.v, AJ, M.s, M.vs⟩, F.role, F.lead, F.timer, M.index, F.got, F.ps⟩ ⟨⟨LA, ln, Lc⟩, b.V, aF.G, aF.P⟩), .slice (some ⟨gS, 0, none⟩) 1 1]) (by simp [results, Tryz.results21, go_sem, lY, ndC]) rfl ?_
      exact ⟨⟨⟨LA, ln, Lc⟩, b.V, aF.G, aF.P⟩, some ⟨gS, 0, none⟩, 1, 1, by rw [hfin.out.1]; rfl, by (rw [hfin.out.1]; exact ⟨hLr.out, hlc, by dsimp only; omega, hMs.vs.to qz, hMs.vc, hMs.vb, hMs.sb, (hFok (hN.to qz)).got, (hFok (hN.to qz)).gc, (hFok (hN.to qz)).gb, (hFok (hN.to qz)).ps, (hFok (hN.to qz)).pc, (hFok (hN.to qz)).pb⟩), by rw [hfin.out.2]; exact hL1.out, Nat.le_refl _, qz⟩
    · go_simp
      clear lY
      have qS := setN_below ⟨F.id, ⟨F.h.t, F.h.v, AJ, M.s, M.vs⟩, F.role, F.lead, F.timer, M.index, F.got, F.ps⟩ ⟨⟨LA, ln, Lc⟩, b.V, aF.G, aF.P⟩ qd (by omega : w.heap.size ≤ w.heap.size + 1 + 1)
      replace hLr := hid_mk (Reads.kr hLr.out (.inr (.inl rfl)) (setN_kr (B := B) ⟨F.id, ⟨F.h.t, F.h.v, AJ, M.s, M.vs⟩, F.role, F.lead, F.timer, M.index, F.got, F.ps⟩ ⟨⟨LA, ln, Lc⟩, b.V, aF.G, aF.P⟩ (hB.out.at_ 2 rfl) (by dsimp only; omega)))
      have hBn := hB.out.setN 2 rfl ⟨F.id, ⟨F.h.t, F.h.v, AJ, M.s, M.vs⟩, F.role, F.lead, F.timer, M.index, F.got, F.ps⟩ ⟨⟨LA, ln, Lc⟩, b.V, aF.G, aF.P⟩
      obtain ⟨wS, hwz⟩ : ∃ x, setN wd (w.heap.size + 1 + 1) ⟨F.id, ⟨F.h.t, F.h.v, AJ, M.s, M.vs⟩, F.role, F.lead, F.timer, M.index, F.got, F.ps⟩ ⟨⟨LA, ln, Lc⟩, b.V, aF.G, aF.P⟩ = x := ⟨_, rfl⟩
      rw [hwz] at hBn hLr qS
      replace hB : Hid (Bxs w.heap.size wS [⟨gO, 30, ndC ⟨F.id, ⟨F.h.t, F.h.v, AJ, M.s, M.vs⟩, F.role, F.lead, F.timer, M.index, F.got, F.ps⟩ ⟨⟨LA, ln, Lc⟩, b.V, aF.G, aF.P⟩⟩, ⟨gA, 32, msC (fitM N.id M.fr N.h.t true M.index) nilMA⟩, ⟨w.heap.size + 1 + 1, 30, ndC ⟨F.id, ⟨F.h.t, F.h.v, AJ, M.s, M.vs⟩, F.role, F.lead, F.timer, M.index, F.got, F.ps⟩ ⟨⟨LA, ln, Lc⟩, b.V, aF.G, aF.P⟩⟩, ⟨w.heap.size + 1, 32, msC M b⟩, ⟨w.heap.size, 30, ndC F aF⟩]) := hid_mk hBn
      clear hBn
      unfold setN set14 at hwz
      rw [hwz]
      clear hwz
      have hS1 := And.intro ((hB.out.at_ 0 rfl).atN) ((hB.out.at_ 1 rfl).atM)
      refine hK.out _ _ (fun _ => hS1) ?_
      clear hK K hS0
      have hS0 := hS1
      clear hS1
      refine onem (i := 2) hR (h := fun K hK => ?_)
      go_simp
      obtain ⟨gS, hgS⟩ : ∃ g, wS.heap.size = g := ⟨_, rfl⟩
      have hL1 : Hid (Mgs (wS.alloc (.cells (msC (fitM N.id M.fr N.h.t true M.index) nilMA) 32)) 0 (some ⟨gS, 0, none⟩) 1 [((fitM N.id M.fr N.h.t true M.index), nilMA)]) := by rw [← hgS]; exact mgs_box (Blk.new _ _ _) (fitM_ok _ _ _ _ _)
      replace hB := hid_mk (hB.out.other (.cells (msC (fitM N.id M.fr N.h.t true M.index) nilMA) 32))
      replace hLr := hid_mk (hLr.out.to ((Below.refl _ wS).alloc (Nat.le_refl _) (.cells (msC (fitM N.id M.fr N.h.t true M.index) nilMA) 32)))
      have qz := qS.alloc qS.size (.cells (msC (fitM N.id M.fr N.h.t true M.index) nilMA) 32)
      obtain ⟨wz, hwS⟩ : ∃ x, wS.alloc (.cells (msC (fitM N.id M.fr N.h.t true M.index) nilMA) 32) = x := ⟨_, rfl⟩
      rw [hwS] at hL1 hB hLr qz
      unfold msC at hwS
      rw [hwS, hgS]
      clear hgS hwS
      have hS1 := And.intro ((hB.out.at_ 0 rfl).atN) ((hB.out.at_ 1 rfl).atM)
      refine hK.out _ _ (fun _ => hS1) ?_
      clear hK K hS0
      have hS0 := hS1
      clear hS1
      refine onem (i := 4) hR (h := fun K hK => ?_)
      go_simp
      have hS1 := And.intro ((hB.out.at_ 0 rfl).atN) ((hB.out.at_ 1 rfl).atM)
      refine hK.out _ _ (fun _ => hS1) ?_
      clear hK K hS0
      have hS0 := hS1
      clear hS1
      refine donem hR (h := ?_)
      try simp only [Act.put]
      have lY := blk14c (hB.out.at_ 2 rfl)
      go_wp2
      refine ends_ret hQ (v := .tuple #[.agg (ndC ⟨F.id, ⟨F.h.t, F.h.v, AJ, M.s, M.vs⟩, F.role, F.lead, F.timer, M.index, F.got, F.ps⟩ ⟨⟨LA, ln, Lc⟩, b.V, aF.G, aF.P⟩), .slice (some ⟨gS, 0, none⟩) 1 1]) (by simp [results, Tryz.results21, go_sem, lY, ndC]) rfl ?_
      exact ⟨⟨⟨LA, ln, Lc⟩, b.V, aF.G, aF.P⟩, some ⟨gS, 0, none⟩, 1, 1, by rw [hfin.out.1]; rfl, by (rw [hfin.out.1]; exact ⟨hLr.out, hlc, by dsimp only; omega, hMs.vs.to qz, hMs.vc, hMs.vb, hMs.sb, (hFok (hN.to qz)).got, (hFok (hN.to qz)).gc, (hFok (hN.to qz)).gb, (hFok (hN.to qz)).ps, (hFok (hN.to qz)).pc, (hFok (hN.to qz)).pb⟩), by rw [hfin.out.2]; exact hL1.out, Nat.le_refl _, qz⟩
theorem RInst_any (N : Nd) (a : NdA) (M : Ms) (b : MsA) (d : Int) (w : World) {B : Nat} (hBw : B ≤ w.heap.size) (hzr : rightN N = true) (hN : NdOk w B N a) (hMs : MsOk w B M b) (ht : Tab w) :
    Calls Tryz.prog 21 #[nodeV N a, msgV M b, .int .i64 d] w fun e w' => RetNL w B (instN N M d) (instL N M) e w' := by
  by_cases h : toM N M 5 = true ∧ M.term = N.h.t ∧ ¬ N.role = 2
  · by_cases h4 : M.index ≤ N.commit
    · exact RInst2_any N a M b d w hBw hzr hN hMs ht h.1 h.2.1 h.2.2 h4
    · exact RInst3_any N a M b d w hBw hzr hN hMs ht h.1 h.2.1 h.2.2 (by omega)
  · exact RInst1_any N a M b d w hBw hzr hN hMs ht h
end Go.Proofs.YtncdjmpdbinanaaGreatDoor
