/-
  WHAT IS PROVED HERE: what the reference's Take hands back of a node that may be, where it does not follow or a record stands against what is sure. Conditions: the slices are of at most 2^47 bytes; the library's table stands.
-/
import Derived.Test.YtncdjmpdbinanaaGreatDoorYGEx
import Derived.Test.YtncdjmpdbinanaaGreatDoorYGRt
import Derived.Test.YtncdjmpdbinanaaGreatDoorYGSr
import Derived.Test.YtncdjmpdbinanaaGreatDoorYGNd
import Derived.Test.YtncdjmpdbinanaaGreatDoorYGKjS
import Derived.Test.YtncdjmpdbinanaaGreatDoorYGEt
import Derived.Deep.DeepCutAuto
namespace Go.Proofs.YtncdjmpdbinanaaGreatDoor
open Go.RowKit

set_option maxRecDepth 100000 in
theorem RFitA_any (N : Nd) (a : NdA) (M : Ms) (b : MsA) (ok : Bool) (p : Int) (w : World) :
    Calls Tryz.prog 98 #[nodeV N a, msgV M b, .bool ok, .int .i64 p] w fun e w' => ∃ g, e = .returned (.slice (some ⟨g, 0, none⟩) 1 1) ∧ Blk w' g 32 #[.int .i64 4, .int .i64 N.id, .int .i64 M.fr, .int .i64 N.h.t, .bool ok, .int .i64 p, .int .i64 0, .slice none 0 0, .int .i64 0, .string ⟨#[]⟩, .slice none 0 0] ∧ Below w.heap.size w w' := by
  unfold nodeV msgV
  obtain ⟨w0, hw0⟩ : ∃ x, ((w.alloc (.cells (ndC N a) 30)).alloc (.cells (msC M b) 32)) = x := ⟨_, rfl⟩
  have hB : Hid (Bxs w.heap.size w0 [⟨w.heap.size + 1, 32, msC M b⟩, ⟨w.heap.size, 30, ndC N a⟩]) := by
    rw [← hw0]
    exact (((Bxs.nil w.heap.size w).add_ rfl (by omega) 30 (ndC N a)).add_ (by simp) (by omega) 32 (msC M b))
  have q0 : Below w.heap.size w w0 := by rw [← hw0]; go_grown
  have z0 := q0.size
  dsimp only [ndC, msC] at hw0
  refine calls_of_wpQ Tryz.func98 rfl ?_
  intro Q hQ
  simp only [Tryz.ntmps98, List.size_toArray, List.length_cons, List.length_nil, Nat.reduceAdd, Nat.reduceSub, Array.replicate_succ, Array.replicate_zero, List.push_toArray, List.append_toArray, List.nil_append, List.cons_append]
  go_upto_region 1 with fail
  try rw [hw0]
  clear hw0
  have lX := blk14c (hB.out.at_ 1 rfl)
  have lM := blk11v (hB.out.at_ 0 rfl)
  have kB : Blk (w0.alloc (.cells #[.int .i64 4, .int .i64 N.id, .int .i64 M.fr, .int .i64 N.h.t, .bool ok, .int .i64 p, .int .i64 0, .slice none 0 0, .int .i64 0, .string ⟨#[]⟩, .slice none 0 0] 32)) w0.heap.size 32 #[.int .i64 4, .int .i64 N.id, .int .i64 M.fr, .int .i64 N.h.t, .bool ok, .int .i64 p, .int .i64 0, .slice none 0 0, .int .i64 0, .string ⟨#[]⟩, .slice none 0 0] := Blk.new _ _ _
  have q1 : Below w.heap.size w (w0.alloc (.cells #[.int .i64 4, .int .i64 N.id, .int .i64 M.fr, .int .i64 N.h.t, .bool ok, .int .i64 p, .int .i64 0, .slice none 0 0, .int .i64 0, .string ⟨#[]⟩, .slice none 0 0] 32)) := by go_grown
  obtain ⟨wz, hwz⟩ : ∃ wz, w0.alloc (.cells #[.int .i64 4, .int .i64 N.id, .int .i64 M.fr, .int .i64 N.h.t, .bool ok, .int .i64 p, .int .i64 0, .slice none 0 0, .int .i64 0, .string ⟨#[]⟩, .slice none 0 0] 32) = wz := ⟨_, rfl⟩
  rw [hwz] at q1 kB
  replace hwz := hid_mk hwz
  go_wp2
  rw [hwz.out]
  refine ends_ret hQ (results_tmp rfl _ _ _) rfl ?_
  exact ⟨w0.heap.size, rfl, kB, q1⟩
set_option maxRecDepth 100000 in
set_option maxHeartbeats 12800000 in
theorem RTake1_any (N : Nd) (a : NdA) (M : Ms) (b : MsA) (d : Int) (w : World) {B : Nat} (_hBw : B ≤ w.heap.size) (hzr : rightN N = true) (hN : NdOk w B N a) (hM : MsOk w B M b) (_ht : Tab w) (hK : ¬ (toM N M 3 = true ∧ M.term = N.h.t ∧ ¬ N.role = 2)) :
    Calls Tryz.prog 34 #[nodeV N a, msgV M b, .int .i64 d] w (RetNMs w B (takeN N M d) (takeL N M)) := by
  obtain ⟨z, hz⟩ : ∃ x, toM N M 3 = x := ⟨_, rfl⟩
  obtain ⟨la, hla⟩ : ∃ x, lastJ N.h.l = x := ⟨_, rfl⟩
  obtain ⟨zb, hzb⟩ : ∃ x, badR N M.index M.rs = x := ⟨_, rfl⟩
  obtain ⟨zk, hzk⟩ : ∃ x, takeOk N M = x := ⟨_, rfl⟩
  rw [hz] at hK
  replace hK := hid_mk hK
  obtain ⟨G, hG⟩ : ∃ x, takeMg N M = x := ⟨_, rfl⟩
  obtain ⟨N', hN'⟩ : ∃ x, takeN N M d = x := ⟨_, rfl⟩
  obtain ⟨L, hL⟩ : ∃ x, takeL N M = x := ⟨_, rfl⟩
  obtain ⟨TT, hTT⟩ : ∃ x, min (max d 0) 1048576 = x := ⟨_, rfl⟩
  have hcE : toldC N M 3 = (z && decide (M.term ≤ N.h.t)) := by
    rw [← hz]
    unfold toldC toM
    rw [hzr]
    cases mayM M <;> cases (M.kind == 3) <;> cases (M.to == N.id) <;> simp
  have hmay : Hid (z = true → mayM M = true) := fun e => by
    rw [← hz] at e
    unfold toM at e
    simp only [Bool.and_eq_true] at e
    exact e.1
  have hNo1 : Hid (z = false → N' = N ∧ L = []) := fun e => by
    rw [← hN', ← hL]
    exact take_not (by rw [hcE, e]; rfl)
  have hNo2 : Hid (N.h.t < M.term → N' = N ∧ L = []) := fun e => by
    rw [← hN', ← hL]
    exact take_not (by rw [hcE, show decide (M.term ≤ N.h.t) = false by simpa using e]; simp)
  have hYes : Hid (z = true → M.term ≤ N.h.t →
      (M.term < N.h.t → N' = N ∧ L = [fitM N.id M.fr N.h.t false la]) ∧ (N.h.t ≤ M.term → N.role = 2 → N' = N ∧ L = []) ∧
      (N.h.t ≤ M.term → ¬ N.role = 2 → zb = true → N' = ⟨N.id, N.h, 0, M.fr, TT, N.commit, [], []⟩ ∧ L = [fitM N.id M.fr N.h.t false N.commit]) ∧
      (N.h.t ≤ M.term → ¬ N.role = 2 → zb = false → zk = false → N' = ⟨N.id, N.h, 0, M.fr, TT, N.commit, [], []⟩ ∧ L = [fitM N.id M.fr N.h.t false la]) ∧
      (N.h.t ≤ M.term → ¬ N.role = 2 → zb = false → zk = true → G.f = false → N' = ⟨N.id, N.h, 0, M.fr, TT, N.commit, [], []⟩ ∧ L = [fitM N.id M.fr N.h.t false G.n]) ∧
      (N.h.t ≤ M.term → ¬ N.role = 2 → zb = false → zk = true → G.f = true → N' = ⟨N.id, ⟨N.h.t, N.h.v, G.l, N.h.s, N.h.vs⟩, 0, M.fr, TT, max N.commit (min M.commit G.n), [], []⟩ ∧ L = [fitM N.id M.fr N.h.t true G.n])) := fun e e2 => by
    have hp : toldC N M 3 = true := by rw [hcE, e]; simpa using e2
    rw [← hN', ← hL, ← hla, ← hzb, ← hzk, ← hG, ← hTT]
    exact take_say hp
  have hGk : Hid (zk = ((G.e == 0) && rightH ⟨N.h.t, N.h.v, G.l, N.h.s, N.h.vs⟩)) := by rw [← hzk, ← hG]; rfl
  have hGl : G.l.rs.length ≤ N.h.l.rs.length + 200 := by rw [← hG]; exact mg_len _ _ _ _
  rw [hN', hL]
  have hj : Hid (rightJ N.h.l = true) := (right_n hzr).1
  have hrj := right_iff.1 hj.out
  have hn200 : a.R.n ≤ 200 := by
    have h1 := hN.recs.len
    omega
  have hcb0 := commit_bounds hzr
  have hTo := fun (w : World) (h2 : MsOk w B M b) => RTo_any N a M b 3 w h2
  rw [hz] at hTo
  have hLA := fun (w : World) (h : NdOk w B N a) => RLastN_any N a w h hj.out
  have hLF := fun (w : World) (h : NdOk w B ⟨N.id, N.h, 0, M.fr, TT, N.commit, [], []⟩ ⟨a.R, a.V, ⟨none, 0, 0⟩, ⟨none, 0, 0⟩⟩) => RLastN_any ⟨N.id, N.h, 0, M.fr, TT, N.commit, [], []⟩ ⟨a.R, a.V, ⟨none, 0, 0⟩, ⟨none, 0, 0⟩⟩ w h hj.out
  dsimp only at hLF
  rw [hla] at hLA hLF
  have hFo := fun (w : World) => RFollow_any N a M.fr d w
  unfold followN at hFo
  rw [hTT] at hFo
  have hMG := fun (w : World) (h0 : B ≤ w.heap.size) (h : NdOk w B N a) (h2 : MsOk w B M b) => refMerge_any N.h.l M.index M.lterm M.rs a.R.A a.R.n a.R.c b.R.A b.R.n b.R.c w h0 (by omega) (by have := hM.rb; omega) hN.rc hM.rc h.recs h2.recs
  have hMGe : mergeJ N.h.l M.index M.lterm M.rs = G := hG
  rw [hMGe] at hMG
  obtain ⟨zh, hzh⟩ : ∃ x, rightH ⟨N.h.t, N.h.v, G.l, N.h.s, N.h.vs⟩ = x := ⟨_, rfl⟩
  rw [hzh] at hGk
  have hWR := fun (R : Slc) (w : World) (k1 : R.n ≤ 140737488355328) (k3 : Recs w B R.A R.n G.l.rs) (k4 : Ints w B a.V.A a.V.n N.h.vs) (k5 : Tab w) => HRight_any ⟨N.h.t, N.h.v, G.l, N.h.s, N.h.vs⟩ R a.V w k1 (by have := hN.vb; omega) k3 k4 k5
  rw [hzh] at hWR
  have hTA := fun (p : Int) (w : World) (h : NdOk w B N a) => refTerm_any N.h.l p a.R.A a.R.n a.R.c w (by omega) h.recs hrj.1 hrj.2.1
  have hF1 := fun (ok : Bool) (p : Int) (w : World) => RFitA_any N a M b ok p w
  have hF2 := fun (ok : Bool) (p : Int) (w : World) => RFitA_any ⟨N.id, N.h, 0, M.fr, TT, N.commit, [], []⟩ ⟨a.R, a.V, ⟨none, 0, 0⟩, ⟨none, 0, 0⟩⟩ M b ok p w
  have hF3 := fun (x : Int) (R : Slc) (ok : Bool) (p : Int) (w : World) => RFitA_any ⟨N.id, ⟨N.h.t, N.h.v, G.l, N.h.s, N.h.vs⟩, 0, M.fr, TT, x, [], []⟩ ⟨R, a.V, ⟨none, 0, 0⟩, ⟨none, 0, 0⟩⟩ M b ok p w
  have hFok : ∀ {w' : World}, NdOk w' B N a → NdOk w' B ⟨N.id, N.h, 0, M.fr, TT, N.commit, [], []⟩ ⟨a.R, a.V, ⟨none, 0, 0⟩, ⟨none, 0, 0⟩⟩ := fun h =>
    ⟨h.recs, h.rc, h.rb, h.vs, h.vc, h.vb, h.sb, Reads.none_, Nat.le_refl _, by dsimp only; omega, Reads.none_, Nat.le_refl _, by dsimp only; omega⟩
  have hnb := hN.rb
  have hmb := hM.rb
  have hlN := hN.recs.len
  have hlM := hM.recs.len
  have hRN : Hid (rightN N = true) := hzr
  replace hz := hid_mk hz
  replace hla := hid_mk hla
  replace hzb := hid_mk hzb
  replace hzh := hid_mk hzh
  replace hTT := hid_mk hTT
  clear hN' hL hzk hG hMGe hcE hzr hrj
  unfold nodeV at hTo hLA hLF hFo hF1 hF2 hF3 ⊢
  unfold msgV at hTo hF1 hF2 hF3 ⊢
  unfold logV at hMG hTA
  unfold hdV at hWR
  dsimp only at hTo hLA hLF hFo hF1 hF2 hF3 hMG hTA hWR ⊢
  obtain ⟨w0, hw0⟩ : ∃ x, (((w.alloc (.cells (ndC N a) 30)).alloc (.cells (msC M b) 32)).alloc (.cells (ndC zeroN nilA) 30)) = x := ⟨_, rfl⟩
  have hB : Hid (Bxs w.heap.size w0 [⟨w.heap.size + 1 + 1, 30, ndC zeroN nilA⟩, ⟨w.heap.size + 1, 32, msC M b⟩, ⟨w.heap.size, 30, ndC N a⟩]) := by
    rw [← hw0]
    exact ((((Bxs.nil w.heap.size w).add_ rfl (by omega) 30 (ndC N a)).add_ (by simp) (by omega) 32 (msC M b)).add_ (by simp) (by omega) 30 (ndC zeroN nilA))
  have q0 : Below w.heap.size w w0 := by rw [← hw0]; go_grown
  have z0 := q0.size
  dsimp only [ndC, msC, zeroN, nilA, zeroM, nilMA] at hw0
  refine calls_of_wpQ Tryz.func34 rfl ?_
  intro Q hQ
  simp only [Tryz.ntmps34, List.size_toArray, List.length_cons, List.length_nil, Nat.reduceAdd, Nat.reduceSub, Array.replicate_succ, Array.replicate_zero, List.push_toArray, List.append_toArray, List.nil_append, List.cons_append]
  go_upto_region 1 with fail
  try rw [hw0]
  clear hw0
  have lX := blk14c (hB.out.at_ 2 rfl)
  have lM := blk11v (hB.out.at_ 1 rfl)
  go_wp2_with fail
  clear lX lM
  refine (hTo _ (hM.to q0)).mono ?_
  rintro e w1 ⟨rfl, hb1⟩
  have q1 := (after (w := w) hb1 q0).1
  have z1 := q1.size
  replace hB := hid_mk (hB.out.keep hb1)
  clear hb1 q0 z0
  cases z
  case false =>
    have hno := hid_mk (hNo1.out rfl)
    have lX := blk14f (hB.out.at_ 2 rfl)
    have lY := blk14f (hB.out.at_ 0 rfl)
    have lM := blk11f (hB.out.at_ 1 rfl)
    go_wp2
    clear lX lY lM
    have kf := setN_blk (N := N) (a := a) (hB.out.at_ 0 rfl)
    unfold setN set14 at kf
    have rs := blk14c kf
    refine ends_ret hQ (v := .tuple #[.agg (ndC N a), .slice none 0 0]) (by simp [results, Tryz.results34, go_sem, rs, ndC]) rfl ?_
    exact ⟨a, none, 0, 0, [], by rw [hno.out.1]; rfl, by rw [hno.out.1]; exact hN.to (setN_below N a q1 (by omega)), mgs_nil, by rw [hno.out.2]; rfl, Nat.le_refl _, setN_below N a q1 (by omega)⟩
  by_cases g0 : N.h.t < M.term
  case pos =>
    have g0b : decide (N.h.t < M.term) = true := by simpa using g0
    have g0n := hNo2.out g0
    replace g0 := hid_mk g0
    have hno := hid_mk (g0n)
    have lX := blk14f (hB.out.at_ 2 rfl)
    have lY := blk14f (hB.out.at_ 0 rfl)
    have lM := blk11f (hB.out.at_ 1 rfl)
    go_wp2
    clear lX lY lM
    have kf := setN_blk (N := N) (a := a) (hB.out.at_ 0 rfl)
    unfold setN set14 at kf
    have rs := blk14c kf
    refine ends_ret hQ (v := .tuple #[.agg (ndC N a), .slice none 0 0]) (by simp [results, Tryz.results34, go_sem, rs, ndC]) rfl ?_
    exact ⟨a, none, 0, 0, [], by rw [hno.out.1]; rfl, by rw [hno.out.1]; exact hN.to (setN_below N a q1 (by omega)), mgs_nil, by rw [hno.out.2]; rfl, Nat.le_refl _, setN_below N a q1 (by omega)⟩
  have g0b : decide (N.h.t < M.term) = false := by simpa using g0
  replace g0 : M.term ≤ N.h.t := by omega
  obtain ⟨hyA, hyB, hyC, hyD, hyE, hyF⟩ := hYes.out rfl g0
  replace hyA := hid_mk hyA
  replace hyB := hid_mk hyB
  replace hyC := hid_mk hyC
  replace hyD := hid_mk hyD
  replace hyE := hid_mk hyE
  replace hyF := hid_mk hyF
  have hix := may_bounds (hmay.out rfl)
  have hix0 : 0 ≤ M.index ∧ M.index ≤ 1073741824 := hix.2.2.2.2.2.1
  clear hYes hNo1 hNo2 hTo hix hmay
  replace g0 := hid_mk g0
  by_cases g1 : M.term = N.h.t
  case neg =>
    have g1b : (M.term == N.h.t) = false := by simpa using g1
    have g1c : M.term < N.h.t := by have := g0.out; omega
    have hfi := hid_mk (hyA.out g1c)
    have g1d : decide (M.term < N.h.t) = true := by simpa using g1c
    replace g1c := hid_mk g1c
    replace g1 := hid_mk g1
    have hfin := hid_mk (hfi.out)
    have lX := blk14f (hB.out.at_ 2 rfl)
    have lY := blk14f (hB.out.at_ 0 rfl)
    have lM := blk11f (hB.out.at_ 1 rfl)
    go_upto_region 4 with fail
    clear lX lY lM
    refine regm (fun w' => AtN w' (w.heap.size) N a ∧ AtM w' (w.heap.size + 1) M b) 8 8 [(0, 0), (0, 0), (0, 0), (0, 0), (8, 8), (22, 22), (33, 1), (127, 32)] (by exact And.intro ((hB.out.at_ 2 rfl).atN) ((hB.out.at_ 1 rfl).atM)) (fun hS0 hR => ?_)
    replace hB := hid_mk hB.out.drew
    have qd : Below w.heap.size w w1.drew := by go_grown
    obtain ⟨wd, hwd⟩ : ∃ x, w1.drew = x := ⟨_, rfl⟩
    rw [hwd] at hS0 hB  qd ⊢
    clear hwd q1 z1
    have zd := qd.size
    refine tkn (i := 0) hR hS0 (h := ?_)
    refine tkn (i := 1) hR hS0 (h := ?_)
    refine tkn (i := 2) hR hS0 (h := ?_)
    refine tkn (i := 3) hR hS0 (h := ?_)
    refine onem (i := 4) hR (h := fun K hK => ?_)
    go_simp
    refine (hLA _ (hN.to qd)).mono ?_
    rintro e wL ⟨rfl, hb1⟩
    have qL := (after (w := w) hb1 qd).1
    replace hB := hid_mk (hB.out.keep hb1)
    clear hb1
    have hS1 := And.intro ((hB.out.at_ 2 rfl).atN) ((hB.out.at_ 1 rfl).atM)
    refine hK.out _ _ (fun _ => hS1) ?_
    clear hK K hS0
    have hS0 := hS1
    clear hS1
    refine onem (i := 5) hR (h := fun K hK => ?_)
    go_simp
    refine (hF1 false (la) _).mono ?_
    rintro e wS ⟨gS, rfl, kS, hb1⟩
    have qS := (after (w := w) hb1 qL).1
    have hL1 : Hid (Mgs wS B (some ⟨gS, 0, none⟩) 1 [((fitM N.id M.fr N.h.t false la), nilMA)]) := hid_mk (mgs_one (M := (fitM N.id M.fr N.h.t false la)) kS rfl rfl rfl)
    replace hB := hid_mk (hB.out.keep hb1)
    clear hb1 kS
    have hS1 := And.intro ((hB.out.at_ 2 rfl).atN) ((hB.out.at_ 1 rfl).atM)
    refine hK.out _ _ (fun _ => hS1) ?_
    clear hK K hS0
    have hS0 := hS1
    clear hS1
    have lY := blk14f (hB.out.at_ 0 rfl)
    refine onem (i := 6) hR (h := fun K hK => ?_)
    go_simp
    clear lY
    replace hL1 := hid_mk (mgs_setN hL1.out (hB.out.at_ 0 rfl) (by dsimp only; omega) N a)
    have qz := setN_below N a qS (by omega : w.heap.size ≤ w.heap.size + 1 + 1)
    have hBn := hB.out.setN 0 rfl N a
    obtain ⟨wz, hwz⟩ : ∃ x, setN wS (w.heap.size + 1 + 1) N a = x := ⟨_, rfl⟩
    rw [hwz] at hBn  qz hL1
    replace hB : Hid (Bxs w.heap.size wz [⟨w.heap.size + 1 + 1, 30, ndC N a⟩, ⟨w.heap.size + 1, 32, msC M b⟩, ⟨w.heap.size, 30, ndC N a⟩]) := hid_mk hBn
    clear hBn
    unfold setN set14 at hwz
    rw [hwz]
    clear hwz
    have hS1 := And.intro ((hB.out.at_ 2 rfl).atN) ((hB.out.at_ 1 rfl).atM)
    refine hK.out _ _ (fun _ => hS1) ?_
    clear hK K hS0
    have hS0 := hS1
    clear hS1
    refine onem (i := 7) hR (h := fun K hK => ?_)
    go_simp
    have hS1 := And.intro ((hB.out.at_ 2 rfl).atN) ((hB.out.at_ 1 rfl).atM)
    refine hK.out _ _ (fun _ => hS1) ?_
    clear hK K hS0
    have hS0 := hS1
    clear hS1
    refine donem hR (h := ?_)
    try simp only [Act.put]
    have lY := blk14c (hB.out.at_ 0 rfl)
    go_wp2
    refine ends_ret hQ (v := .tuple #[.agg (ndC N a), .slice (some ⟨gS, 0, none⟩) 1 1]) (by simp [results, Tryz.results34, go_sem, lY, ndC]) rfl ?_
    exact ⟨a, some ⟨gS, 0, none⟩, 1, 1, [((fitM N.id M.fr N.h.t false la), nilMA)], by rw [hfin.out.1]; rfl, by (rw [hfin.out.1]; exact hN.to qz), hL1.out, by rw [hfin.out.2]; rfl, Nat.le_refl _, qz⟩
  have g1b : (M.term == N.h.t) = true := by simpa using g1
  have g1c : N.h.t ≤ M.term := by omega
  replace g1c := hid_mk g1c
  have g1e : ¬ M.term < N.h.t := by omega
  have g1d : decide (M.term < N.h.t) = false := by simpa using g1e
  replace g1e := hid_mk g1e
  replace g1 := hid_mk g1
  by_cases g2 : N.role = 2
  case pos =>
    have g2b : (N.role == 2) = true := by simpa using g2
    have hfi := hyB.out g1c.out g2
    replace g2 := hid_mk g2
    have hno := hid_mk (hfi)
    have lX := blk14f (hB.out.at_ 2 rfl)
    have lY := blk14f (hB.out.at_ 0 rfl)
    have lM := blk11f (hB.out.at_ 1 rfl)
    go_wp2
    clear lX lY lM
    have kf := setN_blk (N := N) (a := a) (hB.out.at_ 0 rfl)
    unfold setN set14 at kf
    have rs := blk14c kf
    refine ends_ret hQ (v := .tuple #[.agg (ndC N a), .slice none 0 0]) (by simp [results, Tryz.results34, go_sem, rs, ndC]) rfl ?_
    exact ⟨a, none, 0, 0, [], by rw [hno.out.1]; rfl, by rw [hno.out.1]; exact hN.to (setN_below N a q1 (by omega)), mgs_nil, by rw [hno.out.2]; rfl, Nat.le_refl _, setN_below N a q1 (by omega)⟩
  have g2b : (N.role == 2) = false := by simpa using g2
  replace g2 := hid_mk g2
  replace hyC := hid_mk (hyC.out g1c.out g2.out)
  replace hyD := hid_mk (hyD.out g1c.out g2.out)
  replace hyE := hid_mk (hyE.out g1c.out g2.out)
  replace hyF := hid_mk (hyF.out g1c.out g2.out)
  clear hyA hyB hF1 hLA
  exact absurd ⟨rfl, g1.out, g2.out⟩ hK.out
set_option maxRecDepth 100000 in
set_option maxHeartbeats 12800000 in
theorem RTake2_any (N : Nd) (a : NdA) (M : Ms) (b : MsA) (d : Int) (w : World) {B : Nat} (hBw : B ≤ w.heap.size) (hzr : rightN N = true) (hN : NdOk w B N a) (hM : MsOk w B M b) (_ht : Tab w) (hK1 : toM N M 3 = true) (hK2 : M.term = N.h.t) (hK3 : ¬ N.role = 2) (hK4 : badR N M.index M.rs = true) :
    Calls Tryz.prog 34 #[nodeV N a, msgV M b, .int .i64 d] w (RetNMs w B (takeN N M d) (takeL N M)) := by
  obtain ⟨z, hz⟩ : ∃ x, toM N M 3 = x := ⟨_, rfl⟩
  obtain ⟨la, hla⟩ : ∃ x, lastJ N.h.l = x := ⟨_, rfl⟩
  obtain ⟨zb, hzb⟩ : ∃ x, badR N M.index M.rs = x := ⟨_, rfl⟩
  obtain ⟨zk, hzk⟩ : ∃ x, takeOk N M = x := ⟨_, rfl⟩
  rw [hz] at hK1
  rw [hzb] at hK4
  replace hK1 := hid_mk hK1
  replace hK2 := hid_mk hK2
  replace hK3 := hid_mk hK3
  replace hK4 := hid_mk hK4
  obtain ⟨G, hG⟩ : ∃ x, takeMg N M = x := ⟨_, rfl⟩
  obtain ⟨N', hN'⟩ : ∃ x, takeN N M d = x := ⟨_, rfl⟩
  obtain ⟨L, hL⟩ : ∃ x, takeL N M = x := ⟨_, rfl⟩
  obtain ⟨TT, hTT⟩ : ∃ x, min (max d 0) 1048576 = x := ⟨_, rfl⟩
  have hcE : toldC N M 3 = (z && decide (M.term ≤ N.h.t)) := by
    rw [← hz]
    unfold toldC toM
    rw [hzr]
    cases mayM M <;> cases (M.kind == 3) <;> cases (M.to == N.id) <;> simp
  have hmay : Hid (z = true → mayM M = true) := fun e => by
    rw [← hz] at e
    unfold toM at e
    simp only [Bool.and_eq_true] at e
    exact e.1
  have hNo1 : Hid (z = false → N' = N ∧ L = []) := fun e => by
    rw [← hN', ← hL]
    exact take_not (by rw [hcE, e]; rfl)
  have hNo2 : Hid (N.h.t < M.term → N' = N ∧ L = []) := fun e => by
    rw [← hN', ← hL]
    exact take_not (by rw [hcE, show decide (M.term ≤ N.h.t) = false by simpa using e]; simp)
  have hYes : Hid (z = true → M.term ≤ N.h.t →
      (M.term < N.h.t → N' = N ∧ L = [fitM N.id M.fr N.h.t false la]) ∧ (N.h.t ≤ M.term → N.role = 2 → N' = N ∧ L = []) ∧
      (N.h.t ≤ M.term → ¬ N.role = 2 → zb = true → N' = ⟨N.id, N.h, 0, M.fr, TT, N.commit, [], []⟩ ∧ L = [fitM N.id M.fr N.h.t false N.commit]) ∧
      (N.h.t ≤ M.term → ¬ N.role = 2 → zb = false → zk = false → N' = ⟨N.id, N.h, 0, M.fr, TT, N.commit, [], []⟩ ∧ L = [fitM N.id M.fr N.h.t false la]) ∧
      (N.h.t ≤ M.term → ¬ N.role = 2 → zb = false → zk = true → G.f = false → N' = ⟨N.id, N.h, 0, M.fr, TT, N.commit, [], []⟩ ∧ L = [fitM N.id M.fr N.h.t false G.n]) ∧
      (N.h.t ≤ M.term → ¬ N.role = 2 → zb = false → zk = true → G.f = true → N' = ⟨N.id, ⟨N.h.t, N.h.v, G.l, N.h.s, N.h.vs⟩, 0, M.fr, TT, max N.commit (min M.commit G.n), [], []⟩ ∧ L = [fitM N.id M.fr N.h.t true G.n])) := fun e e2 => by
    have hp : toldC N M 3 = true := by rw [hcE, e]; simpa using e2
    rw [← hN', ← hL, ← hla, ← hzb, ← hzk, ← hG, ← hTT]
    exact take_say hp
  have hGk : Hid (zk = ((G.e == 0) && rightH ⟨N.h.t, N.h.v, G.l, N.h.s, N.h.vs⟩)) := by rw [← hzk, ← hG]; rfl
  have hGl : G.l.rs.length ≤ N.h.l.rs.length + 200 := by rw [← hG]; exact mg_len _ _ _ _
  rw [hN', hL]
  have hj : Hid (rightJ N.h.l = true) := (right_n hzr).1
  have hrj := right_iff.1 hj.out
  have hn200 : a.R.n ≤ 200 := by
    have h1 := hN.recs.len
    omega
  have hcb0 := commit_bounds hzr
  have hTo := fun (w : World) (h2 : MsOk w B M b) => RTo_any N a M b 3 w h2
  rw [hz] at hTo
  have hLA := fun (w : World) (h : NdOk w B N a) => RLastN_any N a w h hj.out
  have hLF := fun (w : World) (h : NdOk w B ⟨N.id, N.h, 0, M.fr, TT, N.commit, [], []⟩ ⟨a.R, a.V, ⟨none, 0, 0⟩, ⟨none, 0, 0⟩⟩) => RLastN_any ⟨N.id, N.h, 0, M.fr, TT, N.commit, [], []⟩ ⟨a.R, a.V, ⟨none, 0, 0⟩, ⟨none, 0, 0⟩⟩ w h hj.out
  dsimp only at hLF
  rw [hla] at hLA hLF
  have hFo := fun (w : World) => RFollow_any N a M.fr d w
  unfold followN at hFo
  rw [hTT] at hFo
  have hMG := fun (w : World) (h0 : B ≤ w.heap.size) (h : NdOk w B N a) (h2 : MsOk w B M b) => refMerge_any N.h.l M.index M.lterm M.rs a.R.A a.R.n a.R.c b.R.A b.R.n b.R.c w h0 (by omega) (by have := hM.rb; omega) hN.rc hM.rc h.recs h2.recs
  have hMGe : mergeJ N.h.l M.index M.lterm M.rs = G := hG
  rw [hMGe] at hMG
  obtain ⟨zh, hzh⟩ : ∃ x, rightH ⟨N.h.t, N.h.v, G.l, N.h.s, N.h.vs⟩ = x := ⟨_, rfl⟩
  rw [hzh] at hGk
  have hWR := fun (R : Slc) (w : World) (k1 : R.n ≤ 140737488355328) (k3 : Recs w B R.A R.n G.l.rs) (k4 : Ints w B a.V.A a.V.n N.h.vs) (k5 : Tab w) => HRight_any ⟨N.h.t, N.h.v, G.l, N.h.s, N.h.vs⟩ R a.V w k1 (by have := hN.vb; omega) k3 k4 k5
  rw [hzh] at hWR
  have hTA := fun (p : Int) (w : World) (h : NdOk w B N a) => refTerm_any N.h.l p a.R.A a.R.n a.R.c w (by omega) h.recs hrj.1 hrj.2.1
  have hF1 := fun (ok : Bool) (p : Int) (w : World) => RFitA_any N a M b ok p w
  have hF2 := fun (ok : Bool) (p : Int) (w : World) => RFitA_any ⟨N.id, N.h, 0, M.fr, TT, N.commit, [], []⟩ ⟨a.R, a.V, ⟨none, 0, 0⟩, ⟨none, 0, 0⟩⟩ M b ok p w
  have hF3 := fun (x : Int) (R : Slc) (ok : Bool) (p : Int) (w : World) => RFitA_any ⟨N.id, ⟨N.h.t, N.h.v, G.l, N.h.s, N.h.vs⟩, 0, M.fr, TT, x, [], []⟩ ⟨R, a.V, ⟨none, 0, 0⟩, ⟨none, 0, 0⟩⟩ M b ok p w
  have hFok : ∀ {w' : World}, NdOk w' B N a → NdOk w' B ⟨N.id, N.h, 0, M.fr, TT, N.commit, [], []⟩ ⟨a.R, a.V, ⟨none, 0, 0⟩, ⟨none, 0, 0⟩⟩ := fun h =>
    ⟨h.recs, h.rc, h.rb, h.vs, h.vc, h.vb, h.sb, Reads.none_, Nat.le_refl _, by dsimp only; omega, Reads.none_, Nat.le_refl _, by dsimp only; omega⟩
  have hnb := hN.rb
  have hmb := hM.rb
  have hlN := hN.recs.len
  have hlM := hM.recs.len
  have hRN : Hid (rightN N = true) := hzr
  replace hz := hid_mk hz
  replace hla := hid_mk hla
  replace hzb := hid_mk hzb
  replace hzh := hid_mk hzh
  replace hTT := hid_mk hTT
  clear hN' hL hzk hG hMGe hcE hzr hrj
  unfold nodeV at hTo hLA hLF hFo hF1 hF2 hF3 ⊢
  unfold msgV at hTo hF1 hF2 hF3 ⊢
  unfold logV at hMG hTA
  unfold hdV at hWR
  dsimp only at hTo hLA hLF hFo hF1 hF2 hF3 hMG hTA hWR ⊢
  obtain ⟨w0, hw0⟩ : ∃ x, (((w.alloc (.cells (ndC N a) 30)).alloc (.cells (msC M b) 32)).alloc (.cells (ndC zeroN nilA) 30)) = x := ⟨_, rfl⟩
  have hB : Hid (Bxs w.heap.size w0 [⟨w.heap.size + 1 + 1, 30, ndC zeroN nilA⟩, ⟨w.heap.size + 1, 32, msC M b⟩, ⟨w.heap.size, 30, ndC N a⟩]) := by
    rw [← hw0]
    exact ((((Bxs.nil w.heap.size w).add_ rfl (by omega) 30 (ndC N a)).add_ (by simp) (by omega) 32 (msC M b)).add_ (by simp) (by omega) 30 (ndC zeroN nilA))
  have q0 : Below w.heap.size w w0 := by rw [← hw0]; go_grown
  have z0 := q0.size
  dsimp only [ndC, msC, zeroN, nilA, zeroM, nilMA] at hw0
  refine calls_of_wpQ Tryz.func34 rfl ?_
  intro Q hQ
  simp only [Tryz.ntmps34, List.size_toArray, List.length_cons, List.length_nil, Nat.reduceAdd, Nat.reduceSub, Array.replicate_succ, Array.replicate_zero, List.push_toArray, List.append_toArray, List.nil_append, List.cons_append]
  go_upto_region 1 with fail
  try rw [hw0]
  clear hw0
  have lX := blk14c (hB.out.at_ 2 rfl)
  have lM := blk11v (hB.out.at_ 1 rfl)
  go_wp2_with fail
  clear lX lM
  refine (hTo _ (hM.to q0)).mono ?_
  rintro e w1 ⟨rfl, hb1⟩
  have q1 := (after (w := w) hb1 q0).1
  have z1 := q1.size
  replace hB := hid_mk (hB.out.keep hb1)
  clear hb1 q0 z0
  cases z
  case false =>
    exact absurd hK1.out (by decide)
  by_cases g0 : N.h.t < M.term
  case pos =>
    exact absurd g0 (by have := hK2.out; omega)
  have g0b : decide (N.h.t < M.term) = false := by simpa using g0
  replace g0 : M.term ≤ N.h.t := by omega
  obtain ⟨hyA, hyB, hyC, hyD, hyE, hyF⟩ := hYes.out rfl g0
  replace hyA := hid_mk hyA
  replace hyB := hid_mk hyB
  replace hyC := hid_mk hyC
  replace hyD := hid_mk hyD
  replace hyE := hid_mk hyE
  replace hyF := hid_mk hyF
  have hix := may_bounds (hmay.out rfl)
  have hix0 : 0 ≤ M.index ∧ M.index ≤ 1073741824 := hix.2.2.2.2.2.1
  clear hYes hNo1 hNo2 hTo hix hmay
  replace g0 := hid_mk g0
  by_cases g1 : M.term = N.h.t
  case neg =>
    exact absurd hK2.out (by omega)
  have g1b : (M.term == N.h.t) = true := by simpa using g1
  have g1c : N.h.t ≤ M.term := by omega
  replace g1c := hid_mk g1c
  have g1e : ¬ M.term < N.h.t := by omega
  have g1d : decide (M.term < N.h.t) = false := by simpa using g1e
  replace g1e := hid_mk g1e
  replace g1 := hid_mk g1
  by_cases g2 : N.role = 2
  case pos =>
    exact absurd g2 hK3.out
  have g2b : (N.role == 2) = false := by simpa using g2
  replace g2 := hid_mk g2
  replace hyC := hid_mk (hyC.out g1c.out g2.out)
  replace hyD := hid_mk (hyD.out g1c.out g2.out)
  replace hyE := hid_mk (hyE.out g1c.out g2.out)
  replace hyF := hid_mk (hyF.out g1c.out g2.out)
  clear hyA hyB hF1 hLA
  have lX := blk14c (hB.out.at_ 2 rfl)
  have lM := blk11v (hB.out.at_ 1 rfl)
  go_wp2_with fail
  clear lX lM
  refine (hFo _).mono ?_
  rintro e w2 ⟨rfl, hb1⟩
  have q2 := (after (w := w) hb1 q1).1
  have z2 := q2.size
  replace hB := hid_mk (hB.out.keep hb1)
  clear hb1 q1 z1
  have lX := blk14f (hB.out.at_ 2 rfl)
  go_upto_region 6 with fail
  clear lX
  have q3 := setN_below ⟨N.id, N.h, 0, M.fr, TT, N.commit, [], []⟩ ⟨a.R, a.V, ⟨none, 0, 0⟩, ⟨none, 0, 0⟩⟩ q2 (by omega : w.heap.size ≤ w.heap.size)
  have hBn := hB.out.setN 2 rfl ⟨N.id, N.h, 0, M.fr, TT, N.commit, [], []⟩ ⟨a.R, a.V, ⟨none, 0, 0⟩, ⟨none, 0, 0⟩⟩
  obtain ⟨w3, hwz⟩ : ∃ x, setN w2 (w.heap.size) ⟨N.id, N.h, 0, M.fr, TT, N.commit, [], []⟩ ⟨a.R, a.V, ⟨none, 0, 0⟩, ⟨none, 0, 0⟩⟩ = x := ⟨_, rfl⟩
  rw [hwz] at q3 hBn
  unfold setN set14 at hwz
  try rw [hwz]
  clear hwz
  replace hB : Hid (Bxs w.heap.size w3 [⟨w.heap.size + 1 + 1, 30, ndC zeroN nilA⟩, ⟨w.heap.size + 1, 32, msC M b⟩, ⟨w.heap.size, 30, ndC ⟨N.id, N.h, 0, M.fr, TT, N.commit, [], []⟩ ⟨a.R, a.V, ⟨none, 0, 0⟩, ⟨none, 0, 0⟩⟩⟩]) := hid_mk hBn
  clear hBn
  have z3 := q3.size
  clear q2 z2
  clear hFo
  have lX := blk14f (hB.out.at_ 2 rfl)
  have lM := blk11f (hB.out.at_ 1 rfl)
  go_wp2
  clear lX lM
  go_loopw [63] (fun iv wr => ∃ k : Nat, iv = .int .i64 k ∧ k ≤ b.R.n ∧ Below w.heap.size w wr ∧ Hid (Bxs w.heap.size wr [⟨w.heap.size + 1 + 1, 30, ndC zeroN nilA⟩, ⟨w.heap.size + 1, 32, msC M b⟩, ⟨w.heap.size, 30, ndC ⟨N.id, N.h, 0, M.fr, TT, N.commit, [], []⟩ ⟨a.R, a.V, ⟨none, 0, 0⟩, ⟨none, 0, 0⟩⟩⟩]) ∧ Hid (badR N (M.index + k) (M.rs.drop k) = zb)) (fun iv _ => b.R.n - (intOf iv).toNat)
  case atStart => exact ⟨0, rfl, Nat.zero_le _, q3, hB, by rw [Hid, ← hzb.out]; simp⟩
  case round =>
    clear hB q3 z3
    obtain ⟨k, rfl, hk, qr, hB, hbad⟩ := hrel
    have zr := qr.size
    by_cases hkn : k < b.R.n
    · skip
      obtain ⟨bv, ov, r, hA, hbv, hdx, c0, c1, c2⟩ := (hM.recs.to qr).at_ hkn
      have x1 : IntKind.i64.wrap (M.index + 1) = M.index + 1 := IntWalk.i64_in _ (by omega)
      have x2 : IntKind.i64.wrap (M.index + 1 + k) = M.index + 1 + k := IntWalk.i64_in _ (by omega)
      have hstep : Hid ((if badD N (M.index + 1 + k) r then true else badR N (M.index + k + 1) (M.rs.drop (k + 1))) = zb) := by
        have h := hbad.out
        rw [hdx, bad_stepD hRN.out, show M.index + (k : Int) + 1 = M.index + 1 + k from by omega] at h
        rw [show M.index + (k : Int) + 1 = M.index + 1 + k from by omega]
        exact h
      clear hbad
      replace hdx := hid_mk hdx
      have lX := blk14c (hB.out.at_ 2 rfl)
      have lM := blk11v (hB.out.at_ 1 rfl)
      obtain ⟨gR, hgR⟩ : ∃ g, wr.heap.size = g := ⟨_, rfl⟩
      have lgR : w.heap.size ≤ gR := by rw [← hgR]; exact qr.size
      replace hB := hid_mk (hB.out.add_ hgR lgR 51 (#[.int .i64 r.t, .int .i64 r.k, .string r.d]))
      have q11 := qr.alloc qr.size (.cells (#[.int .i64 r.t, .int .i64 r.k, .string r.d]) 51)
      obtain ⟨w11, hw11⟩ : ∃ x, wr.alloc (.cells (#[.int .i64 r.t, .int .i64 r.k, .string r.d]) 51) = x := ⟨_, rfl⟩
      rw [hw11] at hB  q11
      try unfold ndC at hw11
      replace hw11 := hid_mk hw11
      replace hgR := hid_mk hgR
      go_upto_region 10 with fail
      try rw [hw11.out]
      try rw [hgR.out]
      clear lX lM hw11 hgR qr zr
      have z11 := q11.size
      clear c0 c1 c2 x1 x2 hA
      unfold badD at hstep
      have hTA1 := fun (w : World) (h : NdOk w B N a) => hTA (M.index + 1 + k) w h
      obtain ⟨tv, htv⟩ : ∃ x, (termJ N.h.l (M.index + 1 + k)).getD (-1) = x := ⟨_, rfl⟩
      rw [htv] at hstep hTA1
      replace htv := hid_mk htv
      obtain ⟨at1, hat⟩ : ∃ x, M.index + 1 + (k : Int) = x := ⟨_, rfl⟩
      rw [hat] at hstep hTA1
      try rw [hat]
      replace hat := hid_mk hat
      go_cut [94] from 73 to 94 (fun p94 wx => ∃ g : Bool, p94 = .bool g ∧ Below w.heap.size w wx ∧ Hid (Bxs w.heap.size wx [⟨gR, 51, #[.int .i64 r.t, .int .i64 r.k, .string r.d]⟩, ⟨w.heap.size + 1 + 1, 30, ndC zeroN nilA⟩, ⟨w.heap.size + 1, 32, msC M b⟩, ⟨w.heap.size, 30, ndC ⟨N.id, N.h, 0, M.fr, TT, N.commit, [], []⟩ ⟨a.R, a.V, ⟨none, 0, 0⟩, ⟨none, 0, 0⟩⟩⟩]) ∧ Hid ((if g then true else badR N (M.index + k + 1) (M.rs.drop (k + 1))) = zb))
      case first =>
        refine regm (fun w' => AtN w' (w.heap.size) ⟨N.id, N.h, 0, M.fr, TT, N.commit, [], []⟩ ⟨a.R, a.V, ⟨none, 0, 0⟩, ⟨none, 0, 0⟩⟩ ∧ w'.cell? ⟨gR, 0, none⟩ = some (.int .i64 r.t)) 22 22 [(0, 0), (0, 0), (2, 2), (4, 4), (8, 8), (17, 17), (32, 32), (64, 64), (64, 64), (320, 320), (704, 704), (1088, 1088), (2112, 2048), (4096, 4096), (12288, 12288), (20480, 20480), (4096, 4096), (102400, 102400), (4096, 4096), (266240, 266240), (659456, 659456), (1052672, 1052672)] (by exact And.intro ((hB.out.at_ 3 rfl).atN) ((hB.out.at_ 0 rfl).cell 0)) (fun hS0 hR => ?_)
        replace hB := hid_mk hB.out.drew
        have qd : Below w.heap.size w w11.drew := by go_grown
        obtain ⟨wd, hwd⟩ : ∃ x, w11.drew = x := ⟨_, rfl⟩
        rw [hwd] at hS0 hB  qd ⊢
        clear hwd q11 z11
        have zd := qd.size
        refine tkn (i := 0) hR hS0 (h := ?_)
        refine tkn (i := 1) hR hS0 (h := ?_)
        refine tkn (i := 2) hR hS0 (h := ?_)
        refine tkn (i := 3) hR hS0 (h := ?_)
        refine tkn (i := 4) hR hS0 (h := ?_)
        simp only [Act.put]
        by_cases k1 : N.h.l.base < at1
        case neg =>
          have k1b : decide (N.h.l.base < at1) = false := by simpa using k1
          replace k1 := hid_mk k1
          rw [k1b] at hstep
          refine tkn (i := 5) hR hS0 (h := ?_)
          refine tkn (i := 6) hR hS0 (h := ?_)
          refine skm (i := 7) hR hS0 (h := ?_)
          refine skm (i := 8) hR hS0 (h := ?_)
          refine skm (i := 9) hR hS0 (h := ?_)
          simp only [Act.put]
          refine skm (i := 10) hR hS0 (h := ?_)
          refine tkn (i := 11) hR hS0 (h := ?_)
          refine tkn (i := 12) hR hS0 (h := ?_)
          refine skm (i := 13) hR hS0 (h := ?_)
          refine skm (i := 14) hR hS0 (h := ?_)
          simp only [Act.put]
          refine skm (i := 15) hR hS0 (h := ?_)
          refine skm (i := 16) hR hS0 (h := ?_)
          refine skm (i := 17) hR hS0 (h := ?_)
          refine skm (i := 18) hR hS0 (h := ?_)
          refine skm (i := 19) hR hS0 (h := ?_)
          simp only [Act.put]
          refine skm (i := 20) hR hS0 (h := ?_)
          refine tkn (i := 21) hR hS0 (h := ?_)
          refine donem hR (h := ?_)
          try simp only [Act.put]
          go_wp2_with fail
          go_meet
          exact ⟨false, rfl, qd, hB, hstep⟩
        case pos =>
          have k1b : decide (N.h.l.base < at1) = true := by simpa using k1
          replace k1 := hid_mk k1
          rw [k1b] at hstep
          refine tkn (i := 5) hR hS0 (h := ?_)
          refine tkn (i := 6) hR hS0 (h := ?_)
          refine tkn (i := 7) hR hS0 (h := ?_)
          refine tkn (i := 8) hR hS0 (h := ?_)
          refine tkn (i := 9) hR hS0 (h := ?_)
          simp only [Act.put]
          by_cases k2 : at1 ≤ N.commit
          case neg =>
            have k2b : decide (at1 ≤ N.commit) = false := by simpa using k2
            replace k2 := hid_mk k2
            rw [k2b] at hstep
            refine tkn (i := 10) hR hS0 (h := ?_)
            refine tkn (i := 11) hR hS0 (h := ?_)
            refine tkn (i := 12) hR hS0 (h := ?_)
            refine skm (i := 13) hR hS0 (h := ?_)
            refine skm (i := 14) hR hS0 (h := ?_)
            simp only [Act.put]
            refine skm (i := 15) hR hS0 (h := ?_)
            refine skm (i := 16) hR hS0 (h := ?_)
            refine skm (i := 17) hR hS0 (h := ?_)
            refine skm (i := 18) hR hS0 (h := ?_)
            refine skm (i := 19) hR hS0 (h := ?_)
            simp only [Act.put]
            refine skm (i := 20) hR hS0 (h := ?_)
            refine tkn (i := 21) hR hS0 (h := ?_)
            refine donem hR (h := ?_)
            try simp only [Act.put]
            go_wp2_with fail
            go_meet
            exact ⟨false, rfl, qd, hB, hstep⟩
          case pos =>
            have k2b : decide (at1 ≤ N.commit) = true := by simpa using k2
            replace k2 := hid_mk k2
            rw [k2b] at hstep
            refine tkn (i := 10) hR hS0 (h := ?_)
            refine tkn (i := 11) hR hS0 (h := ?_)
            refine tkn (i := 12) hR hS0 (h := ?_)
            refine tkn (i := 13) hR hS0 (h := ?_)
            refine tkn (i := 14) hR hS0 (h := ?_)
            simp only [Act.put]
            refine tkn (i := 15) hR hS0 (h := ?_)
            refine tkn (i := 16) hR hS0 (h := ?_)
            refine tkn (i := 18) hR hS0 (h := ?_)
            refine tkn (i := 19) hR hS0 (h := ?_)
            refine onem (i := 17) hR (h := fun K hK => ?_)
            go_simp
            refine (hTA1 _ (hN.to qd)).mono ?_
            rintro e wT ⟨rfl, hb1⟩
            have qT := (after (w := w) hb1 qd).1
            replace hB := hid_mk (hB.out.keep hb1)
            clear hb1 qd zd
            have hS1 := And.intro ((hB.out.at_ 3 rfl).atN) ((hB.out.at_ 0 rfl).cell 0)
            refine hK.out _ _ (fun _ => hS1) ?_
            clear hK K hS0
            have hS0 := hS1
            clear hS1
            by_cases k3 : tv = r.t
            case pos =>
              have k3b : (tv == r.t) = true := by simpa using k3
              have k3c : (tv != r.t) = false := by simpa using k3
              replace k3 := hid_mk k3
              rw [k3b] at hstep
              refine tkn (i := 20) hR hS0 (h := ?_)
              simp only [Act.put]
              refine tkn (i := 21) hR hS0 (h := ?_)
              refine donem hR (h := ?_)
              try simp only [Act.put]
              go_wp2_with fail
              go_meet
              exact ⟨false, rfl, qT, hB, hstep⟩
            case neg =>
              have k3b : (tv == r.t) = false := by simpa using k3
              have k3c : (tv != r.t) = true := by simpa using k3
              replace k3 := hid_mk k3
              rw [k3b] at hstep
              refine tkn (i := 20) hR hS0 (h := ?_)
              simp only [Act.put]
              refine tkn (i := 21) hR hS0 (h := ?_)
              refine donem hR (h := ?_)
              try simp only [Act.put]
              go_wp2_with fail
              go_meet
              exact ⟨true, rfl, qT, hB, hstep⟩
      case rest =>
        clear hB q11 z11 hstep htv hat hTA1
        obtain ⟨g, rfl, q20, hB, hg⟩ := hcut
        obtain ⟨w20, hwc⟩ : ∃ x, x = wc := ⟨wc, rfl⟩
        subst hwc
        have z20 := q20.size
        cases g
        case true =>
          have hfi := hid_mk (hyC.out hg.out.symm)
          have hfin := hid_mk (hfi.out)
          have lX := blk14f (hB.out.at_ 3 rfl)
          have lY := blk14f (hB.out.at_ 1 rfl)
          have lM := blk11f (hB.out.at_ 2 rfl)
          go_upto_region 11 with fail
          clear lX lY lM
          refine regm (fun w' => AtN w' (w.heap.size) ⟨N.id, N.h, 0, M.fr, TT, N.commit, [], []⟩ ⟨a.R, a.V, ⟨none, 0, 0⟩, ⟨none, 0, 0⟩⟩ ∧ AtM w' (w.heap.size + 1) M b) 8 8 [(0, 0), (0, 0), (0, 0), (0, 0), (8, 8), (22, 22), (33, 1), (127, 32)] (by exact And.intro ((hB.out.at_ 3 rfl).atN) ((hB.out.at_ 2 rfl).atM)) (fun hS0 hR => ?_)
          replace hB := hid_mk hB.out.drew
          have qd : Below w.heap.size w w20.drew := by go_grown
          obtain ⟨wd, hwd⟩ : ∃ x, w20.drew = x := ⟨_, rfl⟩
          rw [hwd] at hS0 hB  qd ⊢
          clear hwd q20 z20
          have zd := qd.size
          refine tkn (i := 0) hR hS0 (h := ?_)
          refine tkn (i := 1) hR hS0 (h := ?_)
          refine tkn (i := 2) hR hS0 (h := ?_)
          refine tkn (i := 3) hR hS0 (h := ?_)
          refine tkn (i := 4) hR hS0 (h := ?_)
          simp only [Act.put]
          refine onem (i := 5) hR (h := fun K hK => ?_)
          go_simp
          refine (hF2 false (N.commit) _).mono ?_
          rintro e wS ⟨gS, rfl, kS, hb1⟩
          have qS := (after (w := w) hb1 qd).1
          have hL1 : Hid (Mgs wS B (some ⟨gS, 0, none⟩) 1 [((fitM N.id M.fr N.h.t false N.commit), nilMA)]) := hid_mk (mgs_one (M := (fitM N.id M.fr N.h.t false N.commit)) kS rfl rfl rfl)
          replace hB := hid_mk (hB.out.keep hb1)
          clear hb1 kS
          have hS1 := And.intro ((hB.out.at_ 3 rfl).atN) ((hB.out.at_ 2 rfl).atM)
          refine hK.out _ _ (fun _ => hS1) ?_
          clear hK K hS0
          have hS0 := hS1
          clear hS1
          have lY := blk14f (hB.out.at_ 1 rfl)
          refine onem (i := 6) hR (h := fun K hK => ?_)
          go_simp
          clear lY
          replace hL1 := hid_mk (mgs_setN hL1.out (hB.out.at_ 1 rfl) (by dsimp only; omega) ⟨N.id, N.h, 0, M.fr, TT, N.commit, [], []⟩ ⟨a.R, a.V, ⟨none, 0, 0⟩, ⟨none, 0, 0⟩⟩)
          have qz := setN_below ⟨N.id, N.h, 0, M.fr, TT, N.commit, [], []⟩ ⟨a.R, a.V, ⟨none, 0, 0⟩, ⟨none, 0, 0⟩⟩ qS (by omega : w.heap.size ≤ w.heap.size + 1 + 1)
          have hBn := hB.out.setN 1 rfl ⟨N.id, N.h, 0, M.fr, TT, N.commit, [], []⟩ ⟨a.R, a.V, ⟨none, 0, 0⟩, ⟨none, 0, 0⟩⟩
          obtain ⟨wz, hwz⟩ : ∃ x, setN wS (w.heap.size + 1 + 1) ⟨N.id, N.h, 0, M.fr, TT, N.commit, [], []⟩ ⟨a.R, a.V, ⟨none, 0, 0⟩, ⟨none, 0, 0⟩⟩ = x := ⟨_, rfl⟩
          rw [hwz] at hBn  qz hL1
          replace hB : Hid (Bxs w.heap.size wz [⟨gR, 51, #[.int .i64 r.t, .int .i64 r.k, .string r.d]⟩, ⟨w.heap.size + 1 + 1, 30, ndC ⟨N.id, N.h, 0, M.fr, TT, N.commit, [], []⟩ ⟨a.R, a.V, ⟨none, 0, 0⟩, ⟨none, 0, 0⟩⟩⟩, ⟨w.heap.size + 1, 32, msC M b⟩, ⟨w.heap.size, 30, ndC ⟨N.id, N.h, 0, M.fr, TT, N.commit, [], []⟩ ⟨a.R, a.V, ⟨none, 0, 0⟩, ⟨none, 0, 0⟩⟩⟩]) := hid_mk hBn
          clear hBn
          unfold setN set14 at hwz
          rw [hwz]
          clear hwz
          have hS1 := And.intro ((hB.out.at_ 3 rfl).atN) ((hB.out.at_ 2 rfl).atM)
          refine hK.out _ _ (fun _ => hS1) ?_
          clear hK K hS0
          have hS0 := hS1
          clear hS1
          refine onem (i := 7) hR (h := fun K hK => ?_)
          go_simp
          have hS1 := And.intro ((hB.out.at_ 3 rfl).atN) ((hB.out.at_ 2 rfl).atM)
          refine hK.out _ _ (fun _ => hS1) ?_
          clear hK K hS0
          have hS0 := hS1
          clear hS1
          refine donem hR (h := ?_)
          try simp only [Act.put]
          have lY := blk14c (hB.out.at_ 1 rfl)
          go_wp2
          refine ends_ret hQ (v := .tuple #[.agg (ndC ⟨N.id, N.h, 0, M.fr, TT, N.commit, [], []⟩ ⟨a.R, a.V, ⟨none, 0, 0⟩, ⟨none, 0, 0⟩⟩), .slice (some ⟨gS, 0, none⟩) 1 1]) (by simp [results, Tryz.results34, go_sem, lY, ndC]) rfl ?_
          exact ⟨⟨a.R, a.V, ⟨none, 0, 0⟩, ⟨none, 0, 0⟩⟩, some ⟨gS, 0, none⟩, 1, 1, [((fitM N.id M.fr N.h.t false N.commit), nilMA)], by rw [hfin.out.1]; rfl, by (rw [hfin.out.1]; exact hFok (hN.to qz)), hL1.out, by rw [hfin.out.2]; rfl, Nat.le_refl _, qz⟩
        have lX := blk14f (hB.out.at_ 3 rfl)
        have lM := blk11f (hB.out.at_ 2 rfl)
        go_wp2
        clear lX lM
        go_roundw
        case rel =>
          have hbn : Hid (badR N (M.index + ((k + 1 : Nat) : Int)) (M.rs.drop (k + 1)) = zb) := by rw [Hid, show M.index + ((k + 1 : Nat) : Int) = M.index + k + 1 from by omega]; exact hg.out
          first
          | exact ⟨k + 1, by go_num, by omega, q20, hB.out.tail, hbn⟩
          | exact ⟨k + 1, by go_num, by omega, hB.out.tail, hbn⟩
          | ((repeat apply Exists.intro); (first | refine ⟨⟨k + 1, rfl, by omega, q20, hB.out.tail, hbn⟩, ?_⟩ | refine ⟨⟨k + 1, rfl, by omega, hB.out.tail, hbn⟩, ?_⟩); repeat' (first | rfl | go_num | apply And.intro))
        case measure => simp [intOf]; omega
    · skip
      have hkr : k = b.R.n := by omega
      have hzb2 : zb = false := by
        have h := hbad.out
        rw [List.drop_eq_nil_of_le (by omega)] at h
        exact h.symm
      clear hbad
      replace hyD := hid_mk (hyD.out hzb2)
      replace hyE := hid_mk (hyE.out hzb2)
      replace hyF := hid_mk (hyF.out hzb2)
      replace hzb2 := hid_mk hzb2
      clear hyC hTA
      exact absurd (hK4.out.symm.trans hzb2.out) (by decide)
end Go.Proofs.YtncdjmpdbinanaaGreatDoor
