/-
  WHAT IS PROVED HERE: what the reference's lead and Tick of layer 20 hand back. Conditions: the slices are of at most 2^47 bytes; the library's table stands.
-/
import Derived.Test.YtncdjmpdbinanaaGreatDoorZTic
import Derived.Test.YtncdjmpdbinanaaGreatDoorZRld
import Derived.Test.YtncdjmpdbinanaaGreatDoorZGRon
import Derived.Test.YtncdjmpdbinanaaGreatDoorZRSt
import Derived.Test.YtncdjmpdbinanaaGreatDoorZGEt
import Derived.Test.YtncdjmpdbinanaaGreatDoorZGKep
namespace Go.Proofs.YtncdjmpdbinanaaGreatDoor
open Go.RowKit

/-- a node, messages and a word are handed back; a row of the caller's may have been added to -/
def RetLd (row : Option Nat) (w : World) (B : Nat) (N : Nd) (ms : List Ms) (e : Ending) (w' : World) : Prop :=
  ∃ a A n c pm, e = .returned (.tuple #[nodeV N a, .slice A n c, .int .i64 0]) ∧ NdOk w' B N a ∧ Mgs w' B A n pm ∧ pm.map Prod.fst = ms ∧ n ≤ c ∧ w.grownBy w' row
theorem below_setN {n g : Nat} {W w : World} (h : Below n W w) (hg : n ≤ g) (N : Nd) (a : NdA) : Below n W (setN w g N a) := by
  unfold setN set14
  exact ((((((((((((((h.setCell (p := ⟨g, 0, none⟩) hg _).setCell (p := ⟨g, 1, none⟩) hg _).setCell (p := ⟨g, 2, none⟩) hg _).setCell (p := ⟨g, 3, none⟩) hg _).setCell (p := ⟨g, 4, none⟩) hg _).setCell (p := ⟨g, 5, none⟩) hg _).setCell (p := ⟨g, 6, none⟩) hg _).setCell (p := ⟨g, 7, none⟩) hg _).setCell (p := ⟨g, 8, none⟩) hg _).setCell (p := ⟨g, 9, none⟩) hg _).setCell (p := ⟨g, 10, none⟩) hg _).setCell (p := ⟨g, 11, none⟩) hg _).setCell (p := ⟨g, 12, none⟩) hg _).setCell (p := ⟨g, 13, none⟩) hg _)
theorem grown_mix {w wd wA wz : World} {row : Option Nat} (h1 : Below w.heap.size w wd) (hg : wd.grownBy wA row) (h2 : Below w.heap.size wA wz) : w.grownBy wz row :=
  ⟨by rw [h2.os, hg.os, h1.os], by rw [h2.tape, hg.tape, h1.tape], by rw [h2.output, hg.output, h1.output], Nat.le_trans h1.size (Nat.le_trans hg.size h2.size), fun k hk hn => ((h2.block k hk).trans (hg.block k (Nat.lt_of_lt_of_le hk h1.size) hn)).trans (h1.block k hk)⟩
theorem grown_all {w w' : World} {row : Option Nat} (h : Below w.heap.size w w') : w.grownBy w' row := ⟨h.os, h.tape, h.output, h.size, fun k hk _ => h.block k hk⟩
theorem leadl_len {N : Nd} (h : rightN N = true) : (leadL N).length ≤ 9 := by
  unfold leadL
  split
  · rename_i hc
    unfold leadC at hc
    simp only [Bool.and_eq_true, beq_iff_eq] at hc
    unfold allM
    rw [List.length_map]
    exact prs_len (right_parts (sure_right (lead_right h hc.2).1)).2.2.2.2.2.2.2.2.2
  · simp
set_option maxRecDepth 100000 in
set_option maxHeartbeats 6400000 in
theorem RLd_any (N : Nd) (a : NdA) (A : Option Addr) (n c : Nat) (L : List Ms) (won : Bool) (w : World) {B base : Nat} (hBb : B ≤ base) (hbw : base ≤ w.heap.size) (hN : NdOk w B N a) (hr : rightN N = true) (hL : Mgs w 0 A n (L.map fun M => (M, nilMA))) (hO : w.ownsRow base 32 11 (.slice A n c) n (mgsL (pairM L))) (hw : won = true → L = []) (hnc : n ≤ c) (ht : Tab w) :
    Calls Tryz.prog 109 #[nodeV N a, .slice A n c, .bool won] w (RetLd (Value.slice A n c).ownBlock w B (if won = true then leadN N else N) (if won = true then L ++ leadL N else L)) := by
  obtain ⟨NF, hNF⟩ : ∃ z, (if won = true then leadN N else N) = z := ⟨_, rfl⟩
  obtain ⟨LF, hLF⟩ : ∃ z, (if won = true then L ++ leadL N else L) = z := ⟨_, rfl⟩
  rw [hNF, hLF]
  have hF1 : Hid (won = true → NF = leadN N ∧ LF = L ++ leadL N) := fun e => by
    rw [← hNF, ← hLF, if_pos e, if_pos e]
    exact ⟨rfl, rfl⟩
  have hF0 : Hid (won = false → NF = N ∧ LF = L) := fun e => by
    rw [← hNF, ← hLF, e]
    exact ⟨rfl, rfl⟩
  clear hNF hLF
  unfold nodeV
  obtain ⟨w0, hw0⟩ : ∃ x, ((w.alloc (.cells (ndC N a) 30)).alloc (.cells (ndC zeroN nilA) 30)) = x := ⟨_, rfl⟩
  have hB : Hid (Bxs w.heap.size w0 [⟨w.heap.size + 1, 30, ndC zeroN nilA⟩, ⟨w.heap.size, 30, ndC N a⟩]) := by
    rw [← hw0]
    exact (((Bxs.nil w.heap.size w).add_ rfl (by omega) 30 (ndC N a)).add_ (by simp) (by omega) 30 (ndC zeroN nilA))
  have q0 : Below w.heap.size w w0 := by rw [← hw0]; go_grown
  have z0 := q0.size
  dsimp only [ndC, msC, zeroN, nilA, zeroM, nilMA] at hw0
  refine calls_of_wpQ Tryz.func109 rfl ?_
  intro Q hQ
  simp only [Tryz.ntmps109, List.size_toArray, List.length_cons, List.length_nil, Nat.reduceAdd, Nat.reduceSub, Array.replicate_succ, Array.replicate_zero, List.push_toArray, List.append_toArray, List.nil_append, List.cons_append]
  go_upto_region 1 with fail
  try rw [hw0]
  clear hw0
  have hown := hid_mk (own_keep hO q0)
  have hM2 := hid_mk (hL.to q0)
  cases won
  case false =>
    have hf0 := hid_mk (hF0.out (by first | rfl | trivial))
    clear hF1 hF0
    have lX := blk14f (hB.out.at_ 1 rfl)
    have lY := blk14f (hB.out.at_ 0 rfl)
    go_wp2
    clear lX lY
    have kf := setN_blk (N := N) (a := a) (hB.out.at_ 0 rfl)
    have qz := setN_below N a q0 (by omega : w.heap.size ≤ w.heap.size + 1)
    have hkr := setN_kr (B := B) N a (hB.out.at_ 0 rfl) (by dsimp only; omega)
    have hmz := mgs_setN (mgs_up hM2.out) (hB.out.at_ 0 rfl) (show B ≤ w.heap.size + 1 by omega) N a
    have hnz := (hN.to q0).kr hkr
    unfold setN set14 at kf qz hmz hnz
    have rs := blk14c kf
    refine ends_ret hQ (v := .tuple #[.agg (ndC N a), .slice A n c, .int .i64 0]) (by simp [results, Tryz.results109, go_sem, rs, ndC]) rfl ?_
    exact ⟨a, A, n, c, L.map fun M => (M, nilMA), by rw [hf0.out.1]; rfl, by rw [hf0.out.1]; exact hnz, hmz, by rw [hf0.out.2]; exact (List.map_map).trans (List.map_id L), hnc, grown_all qz⟩
  have hsl := hw (by first | rfl | trivial)
  have hf1 := hid_mk (hF1.out (by first | rfl | trivial))
  clear hF1 hF0
  subst hsl
  have hn2 : n = 0 := by
    have h := hM2.out.len
    simpa using h.symm
  subst hn2
  obtain ⟨NL, hNL⟩ : ∃ z, leadN N = z := ⟨_, rfl⟩
  obtain ⟨LL, hLL⟩ : ∃ z, leadL N = z := ⟨_, rfl⟩
  have hEL := fun (w1 : World) (h0 : B ≤ w1.heap.size) (h1 : NdOk w1 B N a) (h3 : Tab w1) => RLead_any N a w1 h0 h1 h3 hr
  rw [hNL, hLL] at hEL
  unfold nodeV at hEL
  have hll : Hid (LL.length ≤ 9) := by rw [Hid, ← hLL]; exact leadl_len hr
  replace hNL := hid_mk hNL
  replace hLL := hid_mk hLL
  clear hM2
  have lX := blk14f (hB.out.at_ 1 rfl)
  go_wp2_with fail
  clear lX
  refine (hEL _ (Nat.le_trans (Nat.le_trans hBb hbw) q0.size) (hN.to q0) (ht.to q0)).mono ?_
  rintro e w1 ⟨a3, A3, n3, c3, pm3, rfl, hok3, hM3, hp3, hc3, hb1⟩
  have q1 := (after (w := w) hb1 q0).1
  have z1 := q1.size
  replace hB := hid_mk (hB.out.keep hb1)
  replace hown := hid_mk (own_keep hown.out hb1)
  have hn3 : n3 ≤ 9 := by
    have h := hM3.len
    have h2 := congrArg List.length hp3
    rw [List.length_map] at h2
    have h3 := hll.out
    omega
  replace hok3 := hid_mk hok3
  replace hM3 := hid_mk hM3
  replace hp3 := hid_mk hp3
  clear hb1 q0 z0 hEL
  unfold nodeV
  have lX := blk14c (hB.out.at_ 1 rfl)
  obtain ⟨gZ, hgZ⟩ : ∃ g, w1.heap.size = g := ⟨_, rfl⟩
  have lgZ : w.heap.size ≤ gZ := by rw [← hgZ]; exact q1.size
  replace hown := hid_mk (hown.out.alloc (.cells (ndC NL a3) 30))
  replace hB := hid_mk (hB.out.add_ hgZ lgZ 30 (ndC NL a3))
  replace hok3 := hid_mk (hok3.out.to ((Below.refl _ w1).alloc (Nat.le_refl _) (.cells (ndC NL a3) 30)))
  replace hM3 := hid_mk (hM3.out.to ((Below.refl _ w1).alloc (Nat.le_refl _) (.cells (ndC NL a3) 30)))
  have q2 := q1.alloc q1.size (.cells (ndC NL a3) 30)
  obtain ⟨w2, hw2⟩ : ∃ x, w1.alloc (.cells (ndC NL a3) 30) = x := ⟨_, rfl⟩
  rw [hw2] at hB hok3 hM3 hown q2
  try unfold ndC at hw2
  replace hw2 := hid_mk hw2
  replace hgZ := hid_mk hgZ
  go_upto_region 3 with fail
  try rw [hw2.out]
  try rw [hgZ.out]
  clear lX hw2 hgZ q1 z1
  have z2 := q2.size
  obtain ⟨i0, hi0, hz0, hz1, hz2⟩ := info_parts msgInfo
  refine regm (fun w' => AtN w' gZ NL a3) 7 7 [(0, 0), (0, 0), (0, 0), (6, 6), (9, 1), (31, 8), (63, 0)] (by exact (hB.out.at_ 0 rfl).atN) (fun hS0 hR => ?_)
  replace hown := hid_mk (hown.out.drew)
  replace hB := hid_mk hB.out.drew
  replace hok3 := hid_mk (hok3.out.to (show Below w2.heap.size w2 w2.drew by go_grown))
  replace hM3 := hid_mk (hM3.out.to (show Below w2.heap.size w2 w2.drew by go_grown))
  have qd : Below w.heap.size w w2.drew := by go_grown
  obtain ⟨wd, hwd⟩ : ∃ x, w2.drew = x := ⟨_, rfl⟩
  rw [hwd] at hS0 hown hB hok3 hM3 qd ⊢
  clear hwd q2 z2
  have zd := qd.size
  refine tkn (i := 0) hR hS0 (h := ?_)
  refine tkn (i := 1) hR hS0 (h := ?_)
  refine tkn (i := 2) hR hS0 (h := ?_)
  refine onem (i := 3) hR (h := fun K hK => ?_)
  refine step_append_any _ rfl (.tmp 18) (.tmp 19) 34 rfl base 32 i0 _ 11 128 Tryz.underlying34 hi0 hz0 hz1 hz2 rfl (by omega) _ 0 _ rfl hown.out B A3 n3 c3 _ rfl hM3.out.1 (msg_one _) (by simp only [maxLen]; omega) (by omega) (Nat.le_trans hbw zd) ?_
  intro v5 wA hown5 hga _
  have qdd := qd
  have kr5 : KR wd wA B := (KR.own hown.out hga).low hBb
  simp only [List.map_nil, pairM, Nat.zero_add] at hown5
  have hgN : Hid (NdOk wA B NL a3) := hid_mk (hok3.out.kr kr5)
  have hmA : Hid (∀ p ∈ pm3, MsOk wA B p.1 p.2) := fun p hp => (hM3.out.2 p hp).kr' kr5
  replace hB := hid_mk (hB.out.ownR hown.out (by simp) hga)
  obtain ⟨A9, c9, rfl, h91, h92⟩ := own_slice hown5
  have hM9 : Hid (Mgs wA B A9 n3 pm3) := ⟨Reads.of_own hown5, hmA.out⟩
  clear hown5 kr5 hmA hM3 hok3 hown qd
  have hS1 := (hB.out.at_ 0 rfl).atN
  refine hK.out _ _ (fun _ => hS1) ?_
  clear hK K hS0
  have hS0 := hS1
  clear hS1
  have lY := blk14f (hB.out.at_ 1 rfl)
  refine onem (i := 4) hR (h := fun K hK => ?_)
  go_simp
  clear lY
  have hkr := setN_kr (B := B) NL a3 (hB.out.at_ 1 rfl) (by dsimp only; omega)
  replace hM9 := hid_mk (mgs_setN hM9.out (hB.out.at_ 1 rfl) (by dsimp only; omega) NL a3)
  replace hgN := hid_mk (hgN.out.kr hkr)
  have qy := below_setN (Below.refl w.heap.size wA) (by omega : w.heap.size ≤ w.heap.size + 1) NL a3
  have hBn := hB.out.setN 1 rfl NL a3
  obtain ⟨wz, hwz⟩ : ∃ x, setN wA (w.heap.size + 1) NL a3 = x := ⟨_, rfl⟩
  rw [hwz] at hBn qy hM9 hgN
  have qz := grown_mix qdd hga qy
  replace hB : Hid (Bxs w.heap.size wz [⟨gZ, 30, ndC NL a3⟩, ⟨w.heap.size + 1, 30, ndC NL a3⟩, ⟨w.heap.size, 30, ndC N a⟩]) := hid_mk hBn
  clear hBn hkr hga qy qdd
  unfold setN set14 at hwz
  rw [hwz]
  clear hwz
  have hS1 := (hB.out.at_ 0 rfl).atN
  refine hK.out _ _ (fun _ => hS1) ?_
  clear hK K hS0
  have hS0 := hS1
  clear hS1
  refine onem (i := 5) hR (h := fun K hK => ?_)
  go_simp
  have hS1 := (hB.out.at_ 0 rfl).atN
  refine hK.out _ _ (fun _ => hS1) ?_
  clear hK K hS0
  have hS0 := hS1
  clear hS1
  refine onem (i := 6) hR (h := fun K hK => ?_)
  go_simp
  have hS1 := (hB.out.at_ 0 rfl).atN
  refine hK.out _ _ (fun _ => hS1) ?_
  clear hK K hS0
  have hS0 := hS1
  clear hS1
  refine donem hR (h := ?_)
  try simp only [Act.put]
  have lY := blk14c (hB.out.at_ 1 rfl)
  go_wp2
  refine ends_ret hQ (v := .tuple #[.agg (ndC NL a3), .slice A9 n3 c9, .int .i64 0]) (by simp [results, Tryz.results109, go_sem, lY, ndC]) rfl ?_
  exact ⟨a3, A9, n3, c9, pm3, by rw [hf1.out.1, hNL.out]; rfl, by rw [hf1.out.1, hNL.out]; exact hgN.out, hM9.out, by rw [hf1.out.2, List.nil_append, hLL.out]; exact hp3.out, h91, qz⟩
set_option maxRecDepth 100000 in
set_option maxHeartbeats 6400000 in
theorem RTick_any (N : Nd) (a : NdA) (M : Ms) (d : Int) (w : World) {B : Nat} (hBw : B ≤ w.heap.size) (hN : NdOk w B N a) (hs : smallB N M = true) (ht : Tab w) :
    Calls Tryz.prog 44 #[nodeV N a, .int .i64 d] w (RetTk w B (tickN N d) (tickL N d) (tickE N)) := by
  obtain ⟨zr, hzr⟩ : ∃ x, rightN N = x := ⟨_, rfl⟩
  obtain ⟨zw, hzw⟩ : ∃ x, standW N = x := ⟨_, rfl⟩
  obtain ⟨NT, hNT⟩ : ∃ x, tickN N d = x := ⟨_, rfl⟩
  obtain ⟨LT, hLT⟩ : ∃ x, tickL N d = x := ⟨_, rfl⟩
  obtain ⟨ET, hET⟩ : ∃ x, tickE N = x := ⟨_, rfl⟩
  obtain ⟨S, hS⟩ : ∃ x, standN N d = x := ⟨_, rfl⟩
  obtain ⟨SL, hSL⟩ : ∃ x, standL N = x := ⟨_, rfl⟩
  have hsay := tick_say N d
  rw [hzw, hNT, hLT, hET, hS, hSL, hzr] at hsay
  obtain ⟨hsA, hsB⟩ := hsay
  replace hsA := hid_mk hsA
  replace hsB := hid_mk hsB
  have hrr : Hid (zr = true → rightN N = true) := fun e => hzr.trans e
  have hSright : Hid (zr = true → rightN S = true) := fun e => by rw [← hS]; exact keep_stand (hzr.trans e) hs d
  have hwl : Hid (zw = true → SL = []) := fun e => by rw [← hSL]; exact won_alone (hzw.trans e)
  have hER := fun (w : World) (h : NdOk w B N a) (h2 : Tab w) => NRight_any N a w h h2
  rw [hzr] at hER
  rw [hNT, hLT, hET]
  have hpb := hN.pb
  replace hNT := hid_mk hNT
  replace hLT := hid_mk hLT
  replace hET := hid_mk hET
  replace hS := hid_mk hS
  replace hSL := hid_mk hSL
  replace hzw := hid_mk hzw
  clear hzr
  unfold nodeV at hER ⊢
  obtain ⟨w0, hw0⟩ : ∃ x, ((w.alloc (.cells (ndC N a) 30)).alloc (.cells (ndC zeroN nilA) 30)) = x := ⟨_, rfl⟩
  have hB : Hid (Bxs w.heap.size w0 [⟨w.heap.size + 1, 30, ndC zeroN nilA⟩, ⟨w.heap.size, 30, ndC N a⟩]) := by
    rw [← hw0]
    exact (((Bxs.nil w.heap.size w).add_ rfl (by omega) 30 (ndC N a)).add_ (by simp) (by omega) 30 (ndC zeroN nilA))
  have q0 : Below w.heap.size w w0 := by rw [← hw0]; go_grown
  have z0 := q0.size
  dsimp only [ndC, msC, zeroN, nilA, zeroM, nilMA] at hw0
  refine calls_of_wpQ Tryz.func44 rfl ?_
  intro Q hQ
  simp only [Tryz.ntmps44, List.size_toArray, List.length_cons, List.length_nil, Nat.reduceAdd, Nat.reduceSub, Array.replicate_succ, Array.replicate_zero, List.push_toArray, List.append_toArray, List.nil_append, List.cons_append]
  go_upto_region 1 with fail
  try rw [hw0]
  clear hw0
  have lX := blk14c (hB.out.at_ 1 rfl)
  go_wp2_with fail
  clear lX
  refine (hER _ (hN.to q0) (ht.to q0)).mono ?_
  rintro e w1 ⟨rfl, hb1⟩
  have q1 := (after (w := w) hb1 q0).1
  have z1 := q1.size
  replace hB := hid_mk (hB.out.keep hb1)
  clear hb1 q0 z0
  cases zr
  case false =>
    have hfin := hid_mk (hsA.out (by first | rfl | trivial))
    have lX := blk14f (hB.out.at_ 1 rfl)
    have lY := blk14f (hB.out.at_ 0 rfl)
    go_wp2
    clear lX lY
    have kf := setN_blk (N := zeroN) (a := nilA) (hB.out.at_ 0 rfl)
    have qz := setN_below zeroN nilA q1 (by omega : w.heap.size ≤ w.heap.size + 1)
    have hkr := setN_kr (B := B) zeroN nilA (hB.out.at_ 0 rfl) (by dsimp only; omega)
    unfold setN set14 zeroN nilA at kf qz hkr
    have rs := blk14c kf
    refine ends_ret hQ (v := .tuple #[.agg (ndC zeroN nilA), .slice (none) 0 0, .int .i64 1]) (by simp [results, Tryz.results44, go_sem, rs, ndC, zeroN, nilA]) rfl ?_
    exact ⟨nilA, none, 0, 0, [], by rw [hfin.out.1, hfin.out.2.2]; rfl, by rw [hfin.out.1]; exact zero_ok, mgs_nil, by rw [hfin.out.2.1]; exact rfl, Nat.le_refl _, qz⟩
  obtain ⟨he0, hy1, hy2, hy3, hy4⟩ := hsB.out (by first | rfl | trivial)
  have hR : Hid (rightN N = true) := hrr.out (by first | rfl | trivial)
  have htm : Hid (0 ≤ N.timer ∧ N.timer ≤ 1048576) := by
    have h := (right_parts hR.out).2.2.2.2.2.2.1
    simp only [inB, Bool.and_eq_true, decide_eq_true_eq] at h
    exact h
  replace he0 := hid_mk he0
  replace hy1 := hid_mk hy1
  replace hy2 := hid_mk hy2
  replace hy3 := hid_mk hy3
  replace hy4 := hid_mk hy4
  clear hsA hsB hrr hER
  by_cases g1 : 1 < N.timer
  case pos =>
    have g1b : decide (2 ≤ N.timer) = true := by rw [decide_eq_true_eq]; omega
    have g1c : (2 : Int) ≤ N.timer := by omega
    have x1 : IntKind.i64.wrap (N.timer - 1) = N.timer - 1 := IntWalk.i64_in _ (by have := htm.out; omega)
    have hfi := hid_mk (hy1.out g1)
    replace g1 := hid_mk g1
    have lX := blk14f (hB.out.at_ 1 rfl)
    go_upto_region 5 with fail
    clear lX
    have hBn : Bxs w.heap.size (w1.setCell ⟨w.heap.size, 10, none⟩ (.int .i64 (N.timer - 1))) [⟨w.heap.size + 1, 30, ndC zeroN nilA⟩, ⟨w.heap.size, 30, ndC ⟨N.id, N.h, N.role, N.lead, (N.timer - 1), N.commit, N.got, N.ps⟩ a⟩] := (hB.out.set 1 rfl 10 (.int .i64 (N.timer - 1)))
    have q2 := (q1.setCell (p := ⟨w.heap.size, 10, none⟩) (by dsimp only; omega) (.int .i64 (N.timer - 1)))
    obtain ⟨w2, hwz⟩ : ∃ x, (w1.setCell ⟨w.heap.size, 10, none⟩ (.int .i64 (N.timer - 1))) = x := ⟨_, rfl⟩
    rw [hwz] at hBn q2
    try rw [hwz]
    clear hwz
    replace hB := hid_mk hBn
    clear hBn
    have z2 := q2.size
    clear q1 z1
    have hfin := hid_mk (And.intro hfi.out.1 (And.intro hfi.out.2 he0.out))
    have lX := blk14f (hB.out.at_ 1 rfl)
    have lY := blk14f (hB.out.at_ 0 rfl)
    go_wp2
    clear lX lY
    have kf := setN_blk (N := ⟨N.id, N.h, N.role, N.lead, (N.timer - 1), N.commit, N.got, N.ps⟩) (a := a) (hB.out.at_ 0 rfl)
    have qz := setN_below ⟨N.id, N.h, N.role, N.lead, (N.timer - 1), N.commit, N.got, N.ps⟩ a q2 (by omega : w.heap.size ≤ w.heap.size + 1)
    have hkr := setN_kr (B := B) ⟨N.id, N.h, N.role, N.lead, (N.timer - 1), N.commit, N.got, N.ps⟩ a (hB.out.at_ 0 rfl) (by dsimp only; omega)
    unfold setN set14 at kf qz hkr
    have rs := blk14c kf
    refine ends_ret hQ (v := .tuple #[.agg (ndC ⟨N.id, N.h, N.role, N.lead, (N.timer - 1), N.commit, N.got, N.ps⟩ a), .slice (none) 0 0, .int .i64 0]) (by simp [results, Tryz.results44, go_sem, rs, ndC]) rfl ?_
    exact ⟨a, none, 0, 0, [], by rw [hfin.out.1, hfin.out.2.2]; rfl, by rw [hfin.out.1]; exact sec_ok (hN.to qz), mgs_nil, by rw [hfin.out.2.1]; exact rfl, Nat.le_refl _, qz⟩
  have g1b : decide (2 ≤ N.timer) = false := by rw [decide_eq_false_iff_not]; omega
  have g1c : ¬ (2 : Int) ≤ N.timer := by omega
  replace g1 := hid_mk g1
  by_cases g2 : N.role = 2
  case pos =>
    have g2b : (N.role == 2) = true := by simpa using g2
    have hfi := hid_mk (hy2.out (by have := g1.out; omega) g2)
    replace g2 := hid_mk g2
    have lX := blk14f (hB.out.at_ 1 rfl)
    go_upto_region 8 with fail
    clear lX
    have hBn : Bxs w.heap.size (w1.setCell ⟨w.heap.size, 10, none⟩ (.int .i64 2)) [⟨w.heap.size + 1, 30, ndC zeroN nilA⟩, ⟨w.heap.size, 30, ndC ⟨N.id, N.h, N.role, N.lead, 2, N.commit, N.got, N.ps⟩ a⟩] := (hB.out.set 1 rfl 10 (.int .i64 2))
    have q2 := (q1.setCell (p := ⟨w.heap.size, 10, none⟩) (by dsimp only; omega) (.int .i64 2))
    obtain ⟨w2, hwz⟩ : ∃ x, (w1.setCell ⟨w.heap.size, 10, none⟩ (.int .i64 2)) = x := ⟨_, rfl⟩
    rw [hwz] at hBn q2
    try rw [hwz]
    clear hwz
    replace hB := hid_mk hBn
    clear hBn
    have z2 := q2.size
    clear q1 z1
    have h2r : Hid (rightN (secN N 2) = true) := sec_right hR.out (by omega)
    have hN2 : Hid (NdOk w2 B (secN N 2) a) := sec_ok (hN.to q2)
    have hcs : ndC ⟨N.id, N.h, N.role, N.lead, 2, N.commit, N.got, N.ps⟩ a = ndC (secN N 2) a := rfl
    obtain ⟨N2, hN2e⟩ : ∃ z, secN N 2 = z := ⟨_, rfl⟩
    rw [hN2e] at h2r hN2 hcs hfi
    replace hB : Hid (Bxs w.heap.size w2 [⟨w.heap.size + 1, 30, ndC zeroN nilA⟩, ⟨w.heap.size, 30, ndC N2 a⟩]) := by rw [← hcs]; exact hB
    clear hcs
    replace hN2e := hid_mk hN2e
    obtain ⟨AL, hAL⟩ : ∃ z, allM N2 = z := ⟨_, rfl⟩
    have hRA := fun (w1 : World) (h0 : B ≤ w1.heap.size) (h1 : NdOk w1 B N2 a) => RAll_any N2 a w1 h0 h1 h2r.out
    rw [hAL] at hRA hfi
    unfold nodeV at hRA
    replace hAL := hid_mk hAL
    refine regm (fun w' => AtN w' w.heap.size N2 a) 6 6 [(0, 0), (0, 0), (2, 2), (5, 1), (15, 4), (31, 0)] (by exact (hB.out.at_ 1 rfl).atN) (fun hS0 hR => ?_)
    replace hB := hid_mk hB.out.drew
    replace hN2 := hid_mk (hN2.out.to (show Below w2.heap.size w2 w2.drew by go_grown))
    have qd : Below w.heap.size w w2.drew := by go_grown
    obtain ⟨wd, hwd⟩ : ∃ x, w2.drew = x := ⟨_, rfl⟩
    rw [hwd] at hS0 hB hN2 qd ⊢
    clear hwd q2 z2
    have zd := qd.size
    refine tkn (i := 0) hR hS0 (h := ?_)
    refine tkn (i := 1) hR hS0 (h := ?_)
    refine onem (i := 2) hR (h := fun K hK => ?_)
    go_simp
    refine (hRA _ (Nat.le_trans hBw qd.size) hN2.out).mono ?_
    rintro e wT ⟨A3, n3, c3, pm3, rfl, hM3, hp3, hc3, hb1⟩
    have qT := (after (w := w) hb1 qd).1
    replace hB := hid_mk (hB.out.keep hb1)
    replace hN2 := hid_mk (hN2.out.to hb1)
    replace hM3 := hid_mk hM3
    clear hb1 qd zd
    have hS1 := (hB.out.at_ 1 rfl).atN
    refine hK.out _ _ (fun _ => hS1) ?_
    clear hK K hS0
    have hS0 := hS1
    clear hS1
    have lY := blk14f (hB.out.at_ 0 rfl)
    refine onem (i := 3) hR (h := fun K hK => ?_)
    go_simp
    clear lY
    have hkr := setN_kr (B := B) N2 a (hB.out.at_ 0 rfl) (by dsimp only; omega)
    replace hM3 := hid_mk (mgs_setN hM3.out (hB.out.at_ 0 rfl) (by dsimp only; omega) N2 a)
    replace hN2 := hid_mk (hN2.out.kr hkr)
    have qz := setN_below N2 a qT (by omega : w.heap.size ≤ w.heap.size + 1)
    have hBn := hB.out.setN 0 rfl N2 a
    obtain ⟨wz, hwz⟩ : ∃ x, setN wT (w.heap.size + 1) N2 a = x := ⟨_, rfl⟩
    rw [hwz] at hBn qz hM3 hN2
    replace hB : Hid (Bxs w.heap.size wz [⟨w.heap.size + 1, 30, ndC N2 a⟩, ⟨w.heap.size, 30, ndC N2 a⟩]) := hid_mk hBn
    clear hBn hkr
    unfold setN set14 at hwz
    rw [hwz]
    clear hwz
    have hS1 := (hB.out.at_ 1 rfl).atN
    refine hK.out _ _ (fun _ => hS1) ?_
    clear hK K hS0
    have hS0 := hS1
    clear hS1
    refine onem (i := 4) hR (h := fun K hK => ?_)
    go_simp
    have hS1 := (hB.out.at_ 1 rfl).atN
    refine hK.out _ _ (fun _ => hS1) ?_
    clear hK K hS0
    have hS0 := hS1
    clear hS1
    refine onem (i := 5) hR (h := fun K hK => ?_)
    go_simp
    have hS1 := (hB.out.at_ 1 rfl).atN
    refine hK.out _ _ (fun _ => hS1) ?_
    clear hK K hS0
    have hS0 := hS1
    clear hS1
    refine donem hR (h := ?_)
    try simp only [Act.put]
    have lY := blk14c (hB.out.at_ 0 rfl)
    go_wp2
    refine ends_ret hQ (v := .tuple #[.agg (ndC N2 a), .slice A3 n3 c3, .int .i64 0]) (by simp [results, Tryz.results44, go_sem, lY, ndC]) rfl ?_
    exact ⟨a, A3, n3, c3, pm3, by rw [hfi.out.1, he0.out]; rfl, by rw [hfi.out.1]; exact hN2.out, hM3.out, by rw [hfi.out.2]; exact hp3, hc3, qz⟩
  have g2b : (N.role == 2) = false := by simpa using g2
  replace g2 := hid_mk g2
  have hst0 := q1.size
  have hST := fun (w1 : World) (h0 : B ≤ w1.heap.size) (h1 : NdOk w1 B N a) => RStandO_any N a d w1 h0 h1 hR.out
  rw [hS.out, hSL.out, hzw.out] at hST
  unfold nodeV at hST
  have hSr := hSright.out (by first | rfl | trivial)
  have lX := blk14c (hB.out.at_ 1 rfl)
  go_wp2_with fail
  clear lX
  refine (hST _ (by omega) (hN.to q1)).mono ?_
  rintro e w2 ⟨⟨a2, A2, n2, c2, rfl, hok2, hM2, hc2, hown2⟩, hb1⟩
  have q2 := (after (w := w) hb1 q1).1
  have z2 := q2.size
  replace hB := hid_mk (hB.out.keep hb1)
  clear hb1 q1 z1
  unfold nodeV
  replace hok2 := hid_mk hok2
  replace hM2 := hid_mk hM2
  replace hown := hid_mk (own_low hown2 hst0)
  clear hST hst0 hown2
  have lX := blk14c (hB.out.at_ 1 rfl)
  obtain ⟨gZ, hgZ⟩ : ∃ g, w2.heap.size = g := ⟨_, rfl⟩
  have lgZ : w.heap.size ≤ gZ := by rw [← hgZ]; exact q2.size
  replace hown := hid_mk (hown.out.alloc (.cells (ndC S a2) 30))
  replace hB := hid_mk (hB.out.add_ hgZ lgZ 30 (ndC S a2))
  replace hok2 := hid_mk (hok2.out.to ((Below.refl _ w2).alloc (Nat.le_refl _) (.cells (ndC S a2) 30)))
  replace hM2 := hid_mk (hM2.out.to ((Below.refl _ w2).alloc (Nat.le_refl _) (.cells (ndC S a2) 30)))
  have q3 := q2.alloc q2.size (.cells (ndC S a2) 30)
  obtain ⟨w3, hw3⟩ : ∃ x, w2.alloc (.cells (ndC S a2) 30) = x := ⟨_, rfl⟩
  rw [hw3] at hB hok2 hM2 hown q3
  try unfold ndC at hw3
  replace hw3 := hid_mk hw3
  replace hgZ := hid_mk hgZ
  go_upto_region 10 with fail
  try rw [hw3.out]
  try rw [hgZ.out]
  clear lX hw3 hgZ q2 z2
  have z3 := q3.size
  have hLD := fun (w1 : World) (hbw : w.heap.size ≤ w1.heap.size) (h1 : NdOk w1 B S a2) (h2 : Mgs w1 0 A2 n2 (SL.map fun M => (M, nilMA))) (h3 : w1.ownsRow w.heap.size 32 11 (.slice A2 n2 c2) n2 (mgsL (pairM SL))) (h4 : Tab w1) => RLd_any S a2 A2 n2 c2 SL zw w1 hBw hbw h1 hSr h2 h3 hwl.out hc2 h4
  obtain ⟨NF, hNF⟩ : ∃ z, (if zw = true then leadN S else S) = z := ⟨_, rfl⟩
  obtain ⟨LF, hLF⟩ : ∃ z, (if zw = true then SL ++ leadL S else SL) = z := ⟨_, rfl⟩
  rw [hNF, hLF] at hLD
  unfold nodeV at hLD
  have hfi : Hid (NT = NF ∧ LT = LF) := by
    rw [Hid, ← hNF, ← hLF]
    cases zw
    · exact hy3.out (by have := g1.out; omega) g2.out rfl
    · have h := hy4.out (by have := g1.out; omega) g2.out rfl
      rw [hwl.out rfl]
      exact h
  replace hNF := hid_mk hNF
  replace hLF := hid_mk hLF
  have lX := blk14f (hB.out.at_ 2 rfl)
  have lZ := blk14f (hB.out.at_ 0 rfl)
  have lY := blk14f (hB.out.at_ 1 rfl)
  go_wp2_with fail
  clear lX lZ lY
  refine (hLD _ q3.size hok2.out hM2.out hown.out (ht.to q3)).mono ?_
  rintro e w4 ⟨a3, A3, n3, c3, pm3, rfl, hok3, hM3, hp3, hc3, hgr⟩
  have q4 : Below w.heap.size w w4 := grown_below q3 hgr (fun k hk => (World.ownsRow.lt hown.out k hk).1)
  have z4 := q4.size
  unfold nodeV
  replace hB := hid_mk (hB.out.ownR hown.out (by simp) hgr)
  replace hok3 := hid_mk hok3
  replace hM3 := hid_mk hM3
  replace hp3 := hid_mk hp3
  clear hgr hown hok2 hM2 q3 z3 hLD
  have hfin := hid_mk (And.intro hfi.out.1 (And.intro hfi.out.2 he0.out))
  have lX := blk14f (hB.out.at_ 2 rfl)
  have lY := blk14f (hB.out.at_ 1 rfl)
  go_wp2
  clear lX lY
  have kf := setN_blk (N := NF) (a := a3) (hB.out.at_ 1 rfl)
  have qz := setN_below NF a3 q4 (by omega : w.heap.size ≤ w.heap.size + 1)
  have hkr := setN_kr (B := B) NF a3 (hB.out.at_ 1 rfl) (by dsimp only; omega)
  unfold setN set14 at kf qz hkr
  have rs := blk14c kf
  refine ends_ret hQ (v := .tuple #[.agg (ndC NF a3), .slice (A3) n3 c3, .int .i64 0]) (by simp [results, Tryz.results44, go_sem, rs, ndC]) rfl ?_
  exact ⟨a3, A3, n3, c3, pm3, by rw [hfin.out.1, hfin.out.2.2]; rfl, by rw [hfin.out.1]; exact hok3.out.kr hkr, mgs_setN hM3.out (hB.out.at_ 1 rfl) (by dsimp only; omega) NF a3, by rw [hfin.out.2.1]; exact hp3.out, hc3, qz⟩
end Go.Proofs.YtncdjmpdbinanaaGreatDoor
