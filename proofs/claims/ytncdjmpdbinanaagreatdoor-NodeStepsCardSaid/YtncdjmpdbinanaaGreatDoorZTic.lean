/-
  WHAT IS PROVED HERE: what node.Tick hands back of any server. Conditions: the slices are of at most 2^47 bytes; the library's table and MaxLen stand.
-/
import Derived.Test.YtncdjmpdbinanaaGreatDoorZTicP
import Derived.Test.YtncdjmpdbinanaaGreatDoorZGEad
import Derived.Test.YtncdjmpdbinanaaGreatDoorZGEl1
import Derived.Test.YtncdjmpdbinanaaGreatDoorZStd
import Derived.Test.YtncdjmpdbinanaaGreatDoorZEld
import Derived.Test.YtncdjmpdbinanaaGreatDoorZGSd
import Derived.Deep.DeepCutAuto
namespace Go.Proofs.YtncdjmpdbinanaaGreatDoor
open Go.RowKit

/-- a node, messages and a word are handed back -/
def RetTk (w : World) (B : Nat) (N : Nd) (ms : List Ms) (er : Int) (e : Ending) (w' : World) : Prop :=
  ∃ a A n c pm, e = .returned (.tuple #[nodeV N a, .slice A n c, .int .i64 er]) ∧ NdOk w' B N a ∧ Mgs w' B A n pm ∧ pm.map Prod.fst = ms ∧ n ≤ c ∧ Below w.heap.size w w'
theorem own_setN {w : World} {B size n g : Nat} {e : TypeId} {v : Value} {xs : List Value} {N' : Nd} {a' : NdA} (h : w.ownsRow B e size v n xs) (k : Blk w g 30 (ndC N' a')) (hne : e ≠ 30) (N : Nd) (a : NdA) : (setN w g N a).ownsRow B e size v n xs := by
  have st : ∀ {w : World} {cs : Array Value}, w.ownsRow B e size v n xs ∧ Blk w g 30 cs → ∀ (i : Nat) (u : Value), (w.setCell ⟨g, i, none⟩ u).ownsRow B e size v n xs ∧ Blk (w.setCell ⟨g, i, none⟩ u) g 30 (cs.setIfInBounds i u) := fun p i u => ⟨own_far p.1 p.2 hne i u, p.2.set_ i u⟩
  unfold setN set14
  exact (st (st (st (st (st (st (st (st (st (st (st (st (st (st ⟨h, k⟩ 0 _) 1 _) 2 _) 3 _) 4 _) 5 _) 6 _) 7 _) 8 _) 9 _) 10 _) 11 _) 12 _) 13 _).1
theorem mgs_up {w : World} {B n : Nat} {A : Option Addr} {L : List Ms} (h : Mgs w 0 A n (L.map fun M => (M, nilMA))) : Mgs w B A n (L.map fun M => (M, nilMA)) := ⟨Reads.more h.1 (Nat.zero_le _), fun p hp => by
  have h2 := h.2 p hp
  exact ⟨Reads.more h2.recs (Nat.zero_le _), h2.rc, h2.rb, Reads.more h2.vs (Nat.zero_le _), h2.vc, h2.vb, h2.sb⟩⟩
theorem sec_ok {w : World} {B : Nat} {N : Nd} {a : NdA} {t : Int} (h : NdOk w B N a) : NdOk w B (secN N t) a := ⟨h.recs, h.rc, h.rb, h.vs, h.vc, h.vb, h.sb, h.got, h.gc, h.gb, h.ps, h.pc, h.pb⟩
def tkB (N : Nd) : Bool := rightN N && (!decide (1 < N.timer) && !(N.role == 2))
theorem tick_say (N : Nd) (d : Int) :
    (rightN N = false → tickN N d = zeroN ∧ tickL N d = [] ∧ tickE N = 1) ∧
    (rightN N = true → tickE N = 0 ∧ (1 < N.timer → tickN N d = secN N (N.timer - 1) ∧ tickL N d = []) ∧
      (¬ 1 < N.timer → N.role = 2 → tickN N d = secN N 2 ∧ tickL N d = allM (secN N 2)) ∧
      (¬ 1 < N.timer → ¬ N.role = 2 → standW N = false → tickN N d = standN N d ∧ tickL N d = standL N) ∧
      (¬ 1 < N.timer → ¬ N.role = 2 → standW N = true → tickN N d = leadN (standN N d) ∧ tickL N d = leadL (standN N d))) := by
  refine ⟨fun h => ?_, fun h => ⟨?_, fun h1 => ?_, fun h1 h2 => ?_, fun h1 h2 h3 => ?_, fun h1 h2 h3 => ?_⟩⟩ <;> (try unfold tickE) <;> (try unfold tickN tickL) <;> rw [h]
  · simp
  · simp
  · simp [h1]
  · simp [h1, h2]
  · simp [h1, h2, h3]
  · simp [h1, h2, h3, won_alone h3]
set_option maxRecDepth 100000 in
set_option maxHeartbeats 12800000 in
theorem NTick1_any (N : Nd) (a : NdA) (d : Int) (w : World) {B : Nat} (hBw : B ≤ w.heap.size) (hN : NdOk w B N a) (ht : Tab w) (hK0 : tkB N = false) (mm : Int) (hm : w.cell? ⟨0, 0, none⟩ = some (.int .i64 mm)) :
    Calls Tryz.prog 43 #[nodeV N a, .int .i64 d] w (RetTk w B (tickN N d) (tickL N d) (tickE N)) := by
  have hm2 : Hid (∀ w', Below w.heap.size w w' → w'.cell? ⟨0, 0, none⟩ = some (.int .i64 mm)) := fun w' hb => (hb.cell (p := ⟨0, 0, none⟩) (cell_lt hm)).trans hm
  clear hm
  obtain ⟨zr, hzr⟩ : ∃ x, rightN N = x := ⟨_, rfl⟩
  obtain ⟨zw, hzw⟩ : ∃ x, standW N = x := ⟨_, rfl⟩
  obtain ⟨NT, hNT⟩ : ∃ x, tickN N d = x := ⟨_, rfl⟩
  obtain ⟨LT, hLT⟩ : ∃ x, tickL N d = x := ⟨_, rfl⟩
  obtain ⟨ET, hET⟩ : ∃ x, tickE N = x := ⟨_, rfl⟩
  obtain ⟨S, hS⟩ : ∃ x, standN N d = x := ⟨_, rfl⟩
  obtain ⟨SL, hSL⟩ : ∃ x, standL N = x := ⟨_, rfl⟩
  have hsay := tick_say N d
  rw [hzw, hNT, hLT, hET, hS, hSL, hzr] at hsay
  obtain ⟨hsA, hsB⟩ := hsay
  replace hsA := hid_mk hsA
  replace hsB := hid_mk hsB
  have hrr : Hid (zr = true → rightN N = true) := fun e => hzr.trans e
  have hwl : Hid (zw = true → SL = []) := fun e => by rw [← hSL]; exact won_alone (hzw.trans e)
  obtain ⟨aR, aV, aG, ⟨PA, pn, Pc⟩⟩ := a
  have hER := fun (w : World) (h : NdOk w B N ⟨aR, aV, aG, ⟨PA, pn, Pc⟩⟩) (h2 : Tab w) => ERight_any N ⟨aR, aV, aG, ⟨PA, pn, Pc⟩⟩ w h h2
  rw [hzr] at hER
  have hST := fun (w : World) (h : NdOk w B N ⟨aR, aV, aG, ⟨PA, pn, Pc⟩⟩) (h2 : Tab w) (h3 : w.cell? ⟨0, 0, none⟩ = some (.int .i64 mm)) => StandO_any N ⟨aR, aV, aG, ⟨PA, pn, Pc⟩⟩ d w h h2 mm h3
  rw [hS, hSL, hzw] at hST
  rw [hNT, hLT, hET]
  have hlN := hN.ps.len
  have hpb := hN.pb
  dsimp only at hlN hpb
  replace hNT := hid_mk hNT
  replace hLT := hid_mk hLT
  replace hET := hid_mk hET
  replace hS := hid_mk hS
  replace hSL := hid_mk hSL
  replace hzw := hid_mk hzw
  have hz0 : Hid (zr = false → tkB N = false) := fun e => by
    unfold tkB
    rw [hzr.trans e]
    rfl
  have hK := hid_mk hK0
  clear hzr hK0
  unfold nodeV at hER hST ⊢
  dsimp only at hER hST ⊢
  obtain ⟨w0, hw0⟩ : ∃ x, ((w.alloc (.cells (ndC N ⟨aR, aV, aG, ⟨PA, pn, Pc⟩⟩) 30)).alloc (.cells (ndC zeroN nilA) 30)) = x := ⟨_, rfl⟩
  have hB : Hid (Bxs w.heap.size w0 [⟨w.heap.size + 1, 30, ndC zeroN nilA⟩, ⟨w.heap.size, 30, ndC N ⟨aR, aV, aG, ⟨PA, pn, Pc⟩⟩⟩]) := by
    rw [← hw0]
    exact (((Bxs.nil w.heap.size w).add_ rfl (by omega) 30 (ndC N ⟨aR, aV, aG, ⟨PA, pn, Pc⟩⟩)).add_ (by simp) (by omega) 30 (ndC zeroN nilA))
  have q0 : Below w.heap.size w w0 := by rw [← hw0]; go_grown
  have z0 := q0.size
  dsimp only [ndC, msC, zeroN, nilA, zeroM, nilMA] at hw0
  refine calls_of_wpQ Tryz.func43 rfl ?_
  intro Q hQ
  simp only [Tryz.ntmps43, List.size_toArray, List.length_cons, List.length_nil, Nat.reduceAdd, Nat.reduceSub, Array.replicate_succ, Array.replicate_zero, List.push_toArray, List.append_toArray, List.nil_append, List.cons_append]
  go_upto_region 1 with fail
  try rw [hw0]
  clear hw0
  have lX := blk14c (hB.out.at_ 1 rfl)
  go_wp2_with fail
  clear lX
  refine (hER _ (hN.to q0) (ht.to q0)).mono ?_
  rintro e w1 ⟨rfl, hb1⟩
  have q1 := (after (w := w) hb1 q0).1
  have z1 := q1.size
  replace hB := hid_mk (hB.out.keep hb1)
  clear hb1 q0 z0
  cases zr
  case false =>
    have hfin := hid_mk (hsA.out (by first | rfl | trivial))
    have lX := blk14f (hB.out.at_ 1 rfl)
    have lY := blk14f (hB.out.at_ 0 rfl)
    go_wp2
    clear lX lY
    have kf := setN_blk (N := zeroN) (a := nilA) (hB.out.at_ 0 rfl)
    have qz := setN_below zeroN nilA q1 (by omega : w.heap.size ≤ w.heap.size + 1)
    have hkr := setN_kr (B := B) zeroN nilA (hB.out.at_ 0 rfl) (by dsimp only; omega)
    unfold setN set14 zeroN nilA at kf qz hkr
    have rs := blk14c kf
    refine ends_ret hQ (v := .tuple #[.agg (ndC zeroN nilA), .slice (none) 0 0, .int .i64 1]) (by simp [results, Tryz.results43, go_sem, rs, ndC, zeroN, nilA]) rfl ?_
    exact ⟨nilA, none, 0, 0, [], by rw [hfin.out.1, hfin.out.2.2]; rfl, by rw [hfin.out.1]; exact zero_ok, mgs_nil, by rw [hfin.out.2.1]; exact rfl, Nat.le_refl _, qz⟩
  obtain ⟨he0, hy1, hy2, hy3, hy4⟩ := hsB.out (by first | rfl | trivial)
  have hR : Hid (rightN N = true) := hrr.out (by first | rfl | trivial)
  have htm : Hid (0 ≤ N.timer ∧ N.timer ≤ 1048576) := by
    have h := (right_parts hR.out).2.2.2.2.2.2.1
    simp only [inB, Bool.and_eq_true, decide_eq_true_eq] at h
    exact h
  have hp9 := prs_len (right_parts hR.out).2.2.2.2.2.2.2.2.2
  replace he0 := hid_mk he0
  replace hy1 := hid_mk hy1
  replace hy2 := hid_mk hy2
  replace hy3 := hid_mk hy3
  replace hy4 := hid_mk hy4
  clear hsA hsB hrr hER
  by_cases g1 : 1 < N.timer
  case pos =>
    have g1b : decide (1 < N.timer) = true := by simpa using g1
    have x1 : IntKind.i64.wrap (N.timer - 1) = N.timer - 1 := IntWalk.i64_in _ (by have := htm.out; omega)
    have hfi := hid_mk (hy1.out g1)
    replace g1 := hid_mk g1
    have lX := blk14f (hB.out.at_ 1 rfl)
    go_upto_region 5 with fail
    clear lX
    have hBn : Bxs w.heap.size (w1.setCell ⟨w.heap.size, 10, none⟩ (.int .i64 (N.timer - 1))) [⟨w.heap.size + 1, 30, ndC zeroN nilA⟩, ⟨w.heap.size, 30, ndC ⟨N.id, N.h, N.role, N.lead, (N.timer - 1), N.commit, N.got, N.ps⟩ ⟨aR, aV, aG, ⟨PA, pn, Pc⟩⟩⟩] := (hB.out.set 1 rfl 10 (.int .i64 (N.timer - 1)))
    have q2 := (q1.setCell (p := ⟨w.heap.size, 10, none⟩) (by dsimp only; omega) (.int .i64 (N.timer - 1)))
    obtain ⟨w2, hwz⟩ : ∃ x, (w1.setCell ⟨w.heap.size, 10, none⟩ (.int .i64 (N.timer - 1))) = x := ⟨_, rfl⟩
    rw [hwz] at hBn q2
    try rw [hwz]
    clear hwz
    replace hB := hid_mk hBn
    clear hBn
    have z2 := q2.size
    clear q1 z1
    have hfin := hid_mk (And.intro hfi.out.1 (And.intro hfi.out.2 he0.out))
    have lX := blk14f (hB.out.at_ 1 rfl)
    have lY := blk14f (hB.out.at_ 0 rfl)
    go_wp2
    clear lX lY
    have kf := setN_blk (N := ⟨N.id, N.h, N.role, N.lead, (N.timer - 1), N.commit, N.got, N.ps⟩) (a := ⟨aR, aV, aG, ⟨PA, pn, Pc⟩⟩) (hB.out.at_ 0 rfl)
    have qz := setN_below ⟨N.id, N.h, N.role, N.lead, (N.timer - 1), N.commit, N.got, N.ps⟩ ⟨aR, aV, aG, ⟨PA, pn, Pc⟩⟩ q2 (by omega : w.heap.size ≤ w.heap.size + 1)
    have hkr := setN_kr (B := B) ⟨N.id, N.h, N.role, N.lead, (N.timer - 1), N.commit, N.got, N.ps⟩ ⟨aR, aV, aG, ⟨PA, pn, Pc⟩⟩ (hB.out.at_ 0 rfl) (by dsimp only; omega)
    unfold setN set14 at kf qz hkr
    have rs := blk14c kf
    refine ends_ret hQ (v := .tuple #[.agg (ndC ⟨N.id, N.h, N.role, N.lead, (N.timer - 1), N.commit, N.got, N.ps⟩ ⟨aR, aV, aG, ⟨PA, pn, Pc⟩⟩), .slice (none) 0 0, .int .i64 0]) (by simp [results, Tryz.results43, go_sem, rs, ndC]) rfl ?_
    exact ⟨⟨aR, aV, aG, ⟨PA, pn, Pc⟩⟩, none, 0, 0, [], by rw [hfin.out.1, hfin.out.2.2]; rfl, by rw [hfin.out.1]; exact sec_ok (hN.to qz), mgs_nil, by rw [hfin.out.2.1]; exact rfl, Nat.le_refl _, qz⟩
  have g1b : decide (1 < N.timer) = false := by simpa using g1
  replace g1 := hid_mk g1
  by_cases g2 : N.role = 2
  case pos =>
    have g2b : (N.role == 2) = true := by simpa using g2
    have hfi := hid_mk (hy2.out (by have := g1.out; omega) g2)
    have lX := blk14f (hB.out.at_ 1 rfl)
    go_upto_region 8 with fail
    clear lX
    have hBn : Bxs w.heap.size (w1.setCell ⟨w.heap.size, 10, none⟩ (.int .i64 2)) [⟨w.heap.size + 1, 30, ndC zeroN nilA⟩, ⟨w.heap.size, 30, ndC ⟨N.id, N.h, N.role, N.lead, 2, N.commit, N.got, N.ps⟩ ⟨aR, aV, aG, ⟨PA, pn, Pc⟩⟩⟩] := (hB.out.set 1 rfl 10 (.int .i64 2))
    have q2 := (q1.setCell (p := ⟨w.heap.size, 10, none⟩) (by dsimp only; omega) (.int .i64 2))
    obtain ⟨w2, hwz⟩ : ∃ x, (w1.setCell ⟨w.heap.size, 10, none⟩ (.int .i64 2)) = x := ⟨_, rfl⟩
    rw [hwz] at hBn q2
    try rw [hwz]
    clear hwz
    replace hB := hid_mk hBn
    clear hBn
    have z2 := q2.size
    clear q1 z1
    have h2r : Hid (rightN ⟨N.id, N.h, N.role, N.lead, 2, N.commit, N.got, N.ps⟩ = true) := sec_right hR.out (by omega)
    have hN2 : Hid (NdOk w B ⟨N.id, N.h, N.role, N.lead, 2, N.commit, N.got, N.ps⟩ ⟨aR, aV, aG, ⟨PA, pn, Pc⟩⟩) := ⟨hN.recs, hN.rc, hN.rb, hN.vs, hN.vc, hN.vb, hN.sb, hN.got, hN.gc, hN.gb, hN.ps, hN.pc, hN.pb⟩
    obtain ⟨F, hF⟩ : ∃ F, sendM ⟨N.id, N.h, N.role, N.lead, 2, N.commit, N.got, N.ps⟩ = F := ⟨_, rfl⟩
    have hfl : Hid (allM (secN N 2) = N.ps.map F) := by rw [← hF]; rfl
    have hSE := fun (p : Pr) (j : Nat) (hj : N.ps[j]? = some p) (w : World) (h0 : B ≤ w.heap.size) (k : NdOk w B ⟨N.id, N.h, N.role, N.lead, 2, N.commit, N.got, N.ps⟩ ⟨aR, aV, aG, ⟨PA, pn, Pc⟩⟩) (ht : Tab w) => ESendTo_any ⟨N.id, N.h, N.role, N.lead, 2, N.commit, N.got, N.ps⟩ ⟨aR, aV, aG, ⟨PA, pn, Pc⟩⟩ p.id w h0 k ht
    have hse : ∀ (p : Pr) (j : Nat) (hj : N.ps[j]? = some p), sendL ⟨N.id, N.h, N.role, N.lead, 2, N.commit, N.got, N.ps⟩ p.id = [F p] := fun p j hj => by rw [← hF]; exact send_each h2r.out g2 hj
    replace hF := hid_mk hF
    replace hse := hid_mk hse
    replace g2 := hid_mk g2
    have lX := blk14f (hB.out.at_ 1 rfl)
    go_wp2
    clear lX
    obtain ⟨i0, hi0, hz0, hz1, hz2⟩ := info_parts msgInfo
    have own0 : Hid (w2.ownsRow w.heap.size 32 11 (.slice none 0 0) 0 (mgsL [])) := World.ownsRow_nil _ _ _ _
    go_loopw [7, 33] (fun o iv wr => ∃ (j : Nat) (pm : List (Ms × MsA)), iv = .int .i64 j ∧ j ≤ pn ∧ Below w.heap.size w wr ∧ Hid (wr.ownsRow w.heap.size 32 11 o pm.length (mgsL pm)) ∧ Hid (∀ p ∈ pm, MsOk wr B p.1 p.2) ∧ Hid (pm.map Prod.fst = (N.ps.take j).map F) ∧ Hid (Bxs w.heap.size wr [⟨w.heap.size + 1, 30, ndC zeroN nilA⟩, ⟨w.heap.size, 30, ndC ⟨N.id, N.h, N.role, N.lead, 2, N.commit, N.got, N.ps⟩ ⟨aR, aV, aG, ⟨PA, pn, Pc⟩⟩⟩])) (fun _ iv _ => pn - (intOf iv).toNat)
    case atStart => exact ⟨0, [], rfl, Nat.zero_le _, q2, own0, fun _ h => (nomatch h), rfl, hB⟩
    case round =>
      clear own0 hB q2 z2
      obtain ⟨j, pm, rfl, hj, qr, hown, hok, hpm, hB⟩ := hrel
      have zr := qr.size
      obtain ⟨Ao, co, rfl, ho1, ho2⟩ := own_slice hown.out
      have hml : pm.length ≤ 9 := by
        have := congrArg List.length hpm.out
        rw [List.length_map, List.length_map, List.length_take] at this
        omega
      by_cases hjn : j < pn
      · skip
        obtain ⟨bv, ov, p, rfl, hbv, hdx, c0, c1, c2⟩ := (hN.ps.to qr).at_ hjn
        have hpj : N.ps[j]? = some p := by
          have h1 : (N.ps.drop j)[0]? = some p := by rw [hdx]; rfl
          rw [List.getElem?_drop, Nat.add_zero] at h1
          exact h1
        have hstep : Hid ((N.ps.take (j + 1)).map F = (N.ps.take j).map F ++ [F p]) := by
          rw [Hid, take_snoc hdx, List.map_append]
          rfl
        have hS1 := hSE p j hpj
        rw [hse.out p j hpj] at hS1
        unfold nodeV at hS1
        dsimp only at hS1
        replace hdx := hid_mk hdx
        replace hpj := hid_mk hpj
        obtain ⟨na, hna⟩ : ∃ q, pm.length = q := ⟨_, rfl⟩
        rw [hna] at hown hml ho1 ⊢
        replace hna := hid_mk hna
        have lX := blk14c (hB.out.at_ 1 rfl)
        obtain ⟨gP, hgP⟩ : ∃ g, wr.heap.size = g := ⟨_, rfl⟩
        have lgP : w.heap.size ≤ gP := by rw [← hgP]; exact qr.size
        have hyr : Below wr.heap.size wr (wr.alloc (.cells #[.int .i64 p.id, .int .i64 p.nx, .int .i64 p.mt] 53)) := by go_grown
        replace hB := hid_mk (hB.out.add_ hgP lgP 53 (#[.int .i64 p.id, .int .i64 p.nx, .int .i64 p.mt]))
        have q31 := qr.alloc qr.size (.cells (#[.int .i64 p.id, .int .i64 p.nx, .int .i64 p.mt]) 53)
        obtain ⟨w31, hw31⟩ : ∃ x, wr.alloc (.cells (#[.int .i64 p.id, .int .i64 p.nx, .int .i64 p.mt]) 53) = x := ⟨_, rfl⟩
        rw [hw31] at hB  hyr q31
        try unfold ndC at hw31
        replace hw31 := hid_mk hw31
        replace hgP := hid_mk hgP
        go_upto_region 12 with fail
        try rw [hw31.out]
        try rw [hgP.out]
        clear lX hw31 hgP qr zr
        have z31 := q31.size
        clear c0 c1 c2
        have lX := blk14f (hB.out.at_ 2 rfl)
        have lP := blk3f (hB.out.at_ 0 rfl)
        go_wp2_with fail
        clear lX lP
        refine (hS1 _ (by omega) (hN2.out.to q31) (ht.to q31)).mono ?_
        rintro e w32 ⟨SA, sn, sc, ps1, rfl, hMs, hps1, hsc, hb1⟩
        have q32 := (after (w := w) hb1 q31).1
        have z32 := q32.size
        have hb2 : Below wr.heap.size wr w32 := (after (w := wr) hb1 hyr).1
        replace hB := hid_mk (hB.out.keep hb1).tail
        replace hown := hid_mk (own_keep hown.out hb2)
        replace hok : Hid (∀ p ∈ pm, MsOk w32 B p.1 p.2) := fun x hx => (hok.out x hx).to hb2
        replace hMs := hid_mk hMs
        replace hps1 := hid_mk hps1
        have hsn : sn = 1 := by
          have h1 := hMs.out.len
          have h2 := congrArg List.length hps1.out
          simp only [List.length_map, List.length_cons, List.length_nil] at h2
          omega
        clear hb1 hb2 hyr q31 z31
        subst hsn
        have hown2 := hown
        go_wp2_with (at_builtin; go_loud (refine wpList_append_any _ rfl (.tmp 37) (.tmp 41) _ rfl w.heap.size 32 i0 _ 11 128 Tryz.underlying34 hi0 hz0 hz1 hz2 rfl (by omega) _ na _ rfl hown2.out B SA 1 sc _ rfl hMs.out.1 (msg_one _) (by simp only [maxLen]; omega) (by omega) (by omega) ?_; intro v1 wa hown3 hga hat3))
        have qa : Below w.heap.size w wa := grown_below q32 hga (fun k hk => (World.ownsRow.lt hown2.out k hk).1)
        have hBa := hid_mk (hB.out.ownR hown2.out (by simp) hga)
        have hkr : KR w32 wa B := (KR.own hown2.out hga).low hBw
        have hok9 : Hid (∀ p ∈ pm ++ ps1, MsOk wa B p.1 p.2) := fun x hx => by
          rcases List.mem_append.1 hx with hx | hx
          · exact (hok.out x hx).kr' hkr
          · exact (hMs.out.2 x hx).kr' hkr
        have hrow : Hid (wa.ownsRow w.heap.size 32 11 v1 (pm ++ ps1).length (mgsL (pm ++ ps1))) := by
          have h1 := hMs.out.len
          rw [List.length_append, hna.out, h1]
          unfold mgsL at hown3 ⊢
          rw [List.flatMap_append]
          exact hown3
        have hpm9 : Hid ((pm ++ ps1).map Prod.fst = (N.ps.take (j + 1)).map F) := by
          rw [Hid, hstep.out, List.map_append, hpm.out, hps1.out]
        clear hown3 hga hat3 hkr hown2 hown hok hpm hMs hps1
        go_roundw
        case rel =>
          first
          | exact ⟨j + 1, pm ++ ps1, by go_num, by omega, qa, hrow, hok9, hpm9, hBa⟩
          | ((repeat apply Exists.intro); (first | refine ⟨⟨j + 1, pm ++ ps1, rfl, by omega, qa, hrow, hok9, hpm9, hBa⟩, ?_⟩ | refine ⟨⟨j + 1, pm ++ ps1, rfl, by omega, hrow, hok9, hpm9, hBa⟩, ?_⟩); repeat' (first | rfl | go_num | apply And.intro))
        case measure => simp [intOf]; omega
      · skip
        have hmgs : Hid (Mgs wr B Ao pm.length pm) := ⟨Reads.of_own hown.out, hok.out⟩
        have hpm2 : Hid (pm.map Prod.fst = allM (secN N 2)) := by
          rw [Hid, hpm.out, hfl.out, List.take_of_length_le (by omega)]
        have j1 : ¬ (j : Int) < pn := by omega
        clear hown hok hpm
        have hfin := hid_mk (And.intro hfi.out.1 (And.intro hfi.out.2 he0.out))
        have lX := blk14f (hB.out.at_ 1 rfl)
        have lY := blk14f (hB.out.at_ 0 rfl)
        go_wp2
        clear lX lY
        have kf := setN_blk (N := ⟨N.id, N.h, N.role, N.lead, 2, N.commit, N.got, N.ps⟩) (a := ⟨aR, aV, aG, ⟨PA, pn, Pc⟩⟩) (hB.out.at_ 0 rfl)
        have qz := setN_below ⟨N.id, N.h, N.role, N.lead, 2, N.commit, N.got, N.ps⟩ ⟨aR, aV, aG, ⟨PA, pn, Pc⟩⟩ qr (by omega : w.heap.size ≤ w.heap.size + 1)
        have hkr := setN_kr (B := B) ⟨N.id, N.h, N.role, N.lead, 2, N.commit, N.got, N.ps⟩ ⟨aR, aV, aG, ⟨PA, pn, Pc⟩⟩ (hB.out.at_ 0 rfl) (by dsimp only; omega)
        unfold setN set14 at kf qz hkr
        have rs := blk14c kf
        refine ends_ret hQ (v := .tuple #[.agg (ndC ⟨N.id, N.h, N.role, N.lead, 2, N.commit, N.got, N.ps⟩ ⟨aR, aV, aG, ⟨PA, pn, Pc⟩⟩), .slice (Ao) pm.length co, .int .i64 0]) (by simp [results, Tryz.results43, go_sem, rs, ndC]) rfl ?_
        exact ⟨⟨aR, aV, aG, ⟨PA, pn, Pc⟩⟩, Ao, pm.length, co, pm, by rw [hfin.out.1, hfin.out.2.2]; rfl, by rw [hfin.out.1]; exact hN2.out.to qz, mgs_setN hmgs.out (hB.out.at_ 0 rfl) (by dsimp only; omega) ⟨N.id, N.h, N.role, N.lead, 2, N.commit, N.got, N.ps⟩ ⟨aR, aV, aG, ⟨PA, pn, Pc⟩⟩, by rw [hfin.out.2.1]; exact hpm2.out, ho1, qz⟩
  have g2b : (N.role == 2) = false := by simpa using g2
  replace g2 := hid_mk g2
  exact absurd (hK.out.symm.trans (show tkB N = true by unfold tkB; rw [hR.out, g2b, decide_eq_false (by have := g1.out; exact this)]; rfl)) (by decide)
set_option maxRecDepth 100000 in
set_option maxHeartbeats 12800000 in
theorem NTick2_any (N : Nd) (a : NdA) (d : Int) (w : World) {B : Nat} (hBw : B ≤ w.heap.size) (hN : NdOk w B N a) (ht : Tab w) (hK0 : tkB N = true) (mm : Int) (hm : w.cell? ⟨0, 0, none⟩ = some (.int .i64 mm)) :
    Calls Tryz.prog 43 #[nodeV N a, .int .i64 d] w (RetTk w B (tickN N d) (tickL N d) (tickE N)) := by
  have hm2 : Hid (∀ w', Below w.heap.size w w' → w'.cell? ⟨0, 0, none⟩ = some (.int .i64 mm)) := fun w' hb => (hb.cell (p := ⟨0, 0, none⟩) (cell_lt hm)).trans hm
  clear hm
  obtain ⟨zr, hzr⟩ : ∃ x, rightN N = x := ⟨_, rfl⟩
  obtain ⟨zw, hzw⟩ : ∃ x, standW N = x := ⟨_, rfl⟩
  obtain ⟨NT, hNT⟩ : ∃ x, tickN N d = x := ⟨_, rfl⟩
  obtain ⟨LT, hLT⟩ : ∃ x, tickL N d = x := ⟨_, rfl⟩
  obtain ⟨ET, hET⟩ : ∃ x, tickE N = x := ⟨_, rfl⟩
  obtain ⟨S, hS⟩ : ∃ x, standN N d = x := ⟨_, rfl⟩
  obtain ⟨SL, hSL⟩ : ∃ x, standL N = x := ⟨_, rfl⟩
  have hsay := tick_say N d
  rw [hzw, hNT, hLT, hET, hS, hSL, hzr] at hsay
  obtain ⟨hsA, hsB⟩ := hsay
  replace hsA := hid_mk hsA
  replace hsB := hid_mk hsB
  have hrr : Hid (zr = true → rightN N = true) := fun e => hzr.trans e
  have hwl : Hid (zw = true → SL = []) := fun e => by rw [← hSL]; exact won_alone (hzw.trans e)
  obtain ⟨aR, aV, aG, ⟨PA, pn, Pc⟩⟩ := a
  have hER := fun (w : World) (h : NdOk w B N ⟨aR, aV, aG, ⟨PA, pn, Pc⟩⟩) (h2 : Tab w) => ERight_any N ⟨aR, aV, aG, ⟨PA, pn, Pc⟩⟩ w h h2
  rw [hzr] at hER
  have hST := fun (w : World) (h : NdOk w B N ⟨aR, aV, aG, ⟨PA, pn, Pc⟩⟩) (h2 : Tab w) (h3 : w.cell? ⟨0, 0, none⟩ = some (.int .i64 mm)) => StandO_any N ⟨aR, aV, aG, ⟨PA, pn, Pc⟩⟩ d w h h2 mm h3
  rw [hS, hSL, hzw] at hST
  rw [hNT, hLT, hET]
  have hlN := hN.ps.len
  have hpb := hN.pb
  dsimp only at hlN hpb
  replace hNT := hid_mk hNT
  replace hLT := hid_mk hLT
  replace hET := hid_mk hET
  replace hS := hid_mk hS
  replace hSL := hid_mk hSL
  replace hzw := hid_mk hzw
  have hz0 : Hid (zr = false → tkB N = false) := fun e => by
    unfold tkB
    rw [hzr.trans e]
    rfl
  have hK := hid_mk hK0
  clear hzr hK0
  unfold nodeV at hER hST ⊢
  dsimp only at hER hST ⊢
  obtain ⟨w0, hw0⟩ : ∃ x, ((w.alloc (.cells (ndC N ⟨aR, aV, aG, ⟨PA, pn, Pc⟩⟩) 30)).alloc (.cells (ndC zeroN nilA) 30)) = x := ⟨_, rfl⟩
  have hB : Hid (Bxs w.heap.size w0 [⟨w.heap.size + 1, 30, ndC zeroN nilA⟩, ⟨w.heap.size, 30, ndC N ⟨aR, aV, aG, ⟨PA, pn, Pc⟩⟩⟩]) := by
    rw [← hw0]
    exact (((Bxs.nil w.heap.size w).add_ rfl (by omega) 30 (ndC N ⟨aR, aV, aG, ⟨PA, pn, Pc⟩⟩)).add_ (by simp) (by omega) 30 (ndC zeroN nilA))
  have q0 : Below w.heap.size w w0 := by rw [← hw0]; go_grown
  have z0 := q0.size
  dsimp only [ndC, msC, zeroN, nilA, zeroM, nilMA] at hw0
  refine calls_of_wpQ Tryz.func43 rfl ?_
  intro Q hQ
  simp only [Tryz.ntmps43, List.size_toArray, List.length_cons, List.length_nil, Nat.reduceAdd, Nat.reduceSub, Array.replicate_succ, Array.replicate_zero, List.push_toArray, List.append_toArray, List.nil_append, List.cons_append]
  go_upto_region 1 with fail
  try rw [hw0]
  clear hw0
  have lX := blk14c (hB.out.at_ 1 rfl)
  go_wp2_with fail
  clear lX
  refine (hER _ (hN.to q0) (ht.to q0)).mono ?_
  rintro e w1 ⟨rfl, hb1⟩
  have q1 := (after (w := w) hb1 q0).1
  have z1 := q1.size
  replace hB := hid_mk (hB.out.keep hb1)
  clear hb1 q0 z0
  cases zr
  case false =>
    exact absurd (hK.out.symm.trans (hz0.out (by first | rfl | trivial))) (by decide)
  obtain ⟨he0, hy1, hy2, hy3, hy4⟩ := hsB.out (by first | rfl | trivial)
  have hR : Hid (rightN N = true) := hrr.out (by first | rfl | trivial)
  have htm : Hid (0 ≤ N.timer ∧ N.timer ≤ 1048576) := by
    have h := (right_parts hR.out).2.2.2.2.2.2.1
    simp only [inB, Bool.and_eq_true, decide_eq_true_eq] at h
    exact h
  have hp9 := prs_len (right_parts hR.out).2.2.2.2.2.2.2.2.2
  replace he0 := hid_mk he0
  replace hy1 := hid_mk hy1
  replace hy2 := hid_mk hy2
  replace hy3 := hid_mk hy3
  replace hy4 := hid_mk hy4
  clear hsA hsB hrr hER
  by_cases g1 : 1 < N.timer
  case pos =>
    exact absurd hK.out (by unfold tkB; simp [g1])
  have g1b : decide (1 < N.timer) = false := by simpa using g1
  replace g1 := hid_mk g1
  by_cases g2 : N.role = 2
  case pos =>
    exact absurd hK.out (by unfold tkB; simp [g2])
  have g2b : (N.role == 2) = false := by simpa using g2
  replace g2 := hid_mk g2
  have hst0 := q1.size
  have lX := blk14c (hB.out.at_ 1 rfl)
  go_wp2_with fail
  clear lX
  refine (hST _ (hN.to q1) (ht.to q1) (hm2.out _ q1)).mono ?_
  rintro e w2 ⟨⟨a2, A2, n2, c2, rfl, hok2, hM2, hc2, hown2⟩, hb1⟩
  have q2 := (after (w := w) hb1 q1).1
  have z2 := q2.size
  replace hB := hid_mk (hB.out.keep hb1)
  clear hb1 q1 z1
  unfold nodeV
  replace hok2 := hid_mk hok2
  replace hM2 := hid_mk hM2
  replace hown2 := hid_mk (own_low hown2 hst0)
  clear hST hst0
  have lX := blk14f (hB.out.at_ 1 rfl)
  go_upto_region 16 with fail
  clear lX
  have q3 := setN_below S a2 q2 (by omega : w.heap.size ≤ w.heap.size)
  have hok2n := hid_mk (hok2.out.kr (setN_kr (B := B) S a2 (hB.out.at_ 1 rfl) (by dsimp only; omega)))
  have hM2n := hid_mk (mgs_setN hM2.out (hB.out.at_ 1 rfl) (Nat.zero_le _) S a2)
  have hown2n := hid_mk (own_setN hown2.out (hB.out.at_ 1 rfl) (by decide) S a2)
  have hBn := hB.out.setN 1 rfl S a2
  obtain ⟨w3, hwz⟩ : ∃ x, setN w2 (w.heap.size) S a2 = x := ⟨_, rfl⟩
  rw [hwz] at q3 hok2n hM2n hown2n hBn
  unfold setN set14 at hwz
  try rw [hwz]
  clear hwz
  replace hB : Hid (Bxs w.heap.size w3 [⟨w.heap.size + 1, 30, ndC zeroN nilA⟩, ⟨w.heap.size, 30, ndC S a2⟩]) := hid_mk hBn
  clear hBn
  replace hok2 := hid_mk hok2n
  clear hok2n
  replace hM2 := hid_mk hM2n
  clear hM2n
  replace hown2 := hid_mk hown2n
  clear hown2n
  have z3 := q3.size
  clear q2 z2
  cases zw
  case false =>
    have hf := hid_mk (hy3.out (by have := g1.out; omega) g2.out (by first | rfl | trivial))
    have hfin := hid_mk (And.intro hf.out.1 (And.intro hf.out.2 he0.out))
    have lX := blk14f (hB.out.at_ 1 rfl)
    have lY := blk14f (hB.out.at_ 0 rfl)
    go_wp2
    clear lX lY
    have kf := setN_blk (N := S) (a := a2) (hB.out.at_ 0 rfl)
    have qz := setN_below S a2 q3 (by omega : w.heap.size ≤ w.heap.size + 1)
    have hkr := setN_kr (B := B) S a2 (hB.out.at_ 0 rfl) (by dsimp only; omega)
    unfold setN set14 at kf qz hkr
    have rs := blk14c kf
    refine ends_ret hQ (v := .tuple #[.agg (ndC S a2), .slice (A2) n2 c2, .int .i64 0]) (by simp [results, Tryz.results43, go_sem, rs, ndC]) rfl ?_
    exact ⟨a2, A2, n2, c2, SL.map fun M => (M, nilMA), by rw [hfin.out.1, hfin.out.2.2]; rfl, by rw [hfin.out.1]; exact hok2.out.kr hkr, mgs_setN (mgs_up hM2.out) (hB.out.at_ 0 rfl) (by dsimp only; omega) S a2, by rw [hfin.out.2.1]; exact (List.map_map).trans (List.map_id SL), hc2, qz⟩
  have hsl := hwl.out (by first | rfl | trivial)
  have hf := hid_mk (hy4.out (by have := g1.out; omega) g2.out (by first | rfl | trivial))
  subst hsl
  have hn2 : n2 = 0 := by
    have h := hM2.out.len
    simpa using h.symm
  subst hn2
  obtain ⟨NL, hNL⟩ : ∃ z, leadN S = z := ⟨_, rfl⟩
  obtain ⟨LL, hLL⟩ : ∃ z, leadL S = z := ⟨_, rfl⟩
  have hEL := fun (w1 : World) (h0 : B ≤ w1.heap.size) (h1 : NdOk w1 B S a2) (h3 : Tab w1) (hmm : w1.cell? ⟨0, 0, none⟩ = some (.int .i64 mm)) => ELead_any S a2 w1 h0 h1 h3 mm hmm
  rw [hNL, hLL] at hEL hf
  unfold nodeV at hEL
  have hll : Hid (LL.length ≤ 9) := by
    rw [Hid, ← hLL]
    unfold leadL
    split
    · rename_i hc
      unfold leadC at hc
      simp only [Bool.and_eq_true, beq_iff_eq] at hc
      unfold allM
      rw [List.length_map]
      exact prs_len (right_parts (sure_right (lead_right hc.1 hc.2).1)).2.2.2.2.2.2.2.2.2
    · simp
  replace hNL := hid_mk hNL
  replace hLL := hid_mk hLL
  clear hM2
  have lX := blk14f (hB.out.at_ 1 rfl)
  go_wp2_with fail
  clear lX
  refine (hEL _ (Nat.le_trans hBw q3.size) hok2.out (ht.to q3) (hm2.out _ q3)).mono ?_
  rintro e w4 ⟨a3, A3, n3, c3, pm3, rfl, hok3, hM3, hp3, hc3, hb1⟩
  have q4 := (after (w := w) hb1 q3).1
  have z4 := q4.size
  replace hB := hid_mk (hB.out.keep hb1)
  replace hok2 := hid_mk (hok2.out.to hb1)
  replace hown2 := hid_mk (own_keep hown2.out hb1)
  have hn3 : n3 ≤ 9 := by
    have h := hM3.len
    have h2 := congrArg List.length hp3
    rw [List.length_map] at h2
    have h3 := hll.out
    omega
  replace hok3 := hid_mk hok3
  replace hM3 := hid_mk hM3
  replace hp3 := hid_mk hp3
  clear hb1 q3 z3 hEL
  unfold nodeV
  have lX := blk14c (hB.out.at_ 1 rfl)
  obtain ⟨gZ, hgZ⟩ : ∃ g, w4.heap.size = g := ⟨_, rfl⟩
  have lgZ : w.heap.size ≤ gZ := by rw [← hgZ]; exact q4.size
  replace hown2 := hid_mk (hown2.out.alloc (.cells (ndC NL a3) 30))
  replace hB := hid_mk (hB.out.add_ hgZ lgZ 30 (ndC NL a3))
  replace hok3 := hid_mk (hok3.out.to ((Below.refl _ w4).alloc (Nat.le_refl _) (.cells (ndC NL a3) 30)))
  replace hM3 := hid_mk (hM3.out.to ((Below.refl _ w4).alloc (Nat.le_refl _) (.cells (ndC NL a3) 30)))
  have q5 := q4.alloc q4.size (.cells (ndC NL a3) 30)
  obtain ⟨w5, hw5⟩ : ∃ x, w4.alloc (.cells (ndC NL a3) 30) = x := ⟨_, rfl⟩
  rw [hw5] at hB hok3 hM3 hown2 q5
  try unfold ndC at hw5
  replace hw5 := hid_mk hw5
  replace hgZ := hid_mk hgZ
  go_upto_region 18 with fail
  try rw [hw5.out]
  try rw [hgZ.out]
  clear lX hw5 hgZ q4 z4
  have z5 := q5.size
  obtain ⟨i0, hi0, hz0, hz1, hz2⟩ := info_parts msgInfo
  refine regm (fun w' => AtN w' gZ NL a3) 6 6 [(0, 0), (0, 0), (0, 0), (6, 6), (9, 1), (31, 10)] (by exact (hB.out.at_ 0 rfl).atN) (fun hS0 hR => ?_)
  replace hown2 := hid_mk (hown2.out.drew)
  replace hB := hid_mk hB.out.drew
  replace hok3 := hid_mk (hok3.out.to (show Below w5.heap.size w5 w5.drew by go_grown))
  replace hM3 := hid_mk (hM3.out.to (show Below w5.heap.size w5 w5.drew by go_grown))
  have qd : Below w.heap.size w w5.drew := by go_grown
  obtain ⟨wd, hwd⟩ : ∃ x, w5.drew = x := ⟨_, rfl⟩
  rw [hwd] at hS0 hown2 hB hok3 hM3 qd ⊢
  clear hwd q5 z5
  have zd := qd.size
  refine tkn (i := 0) hR hS0 (h := ?_)
  refine tkn (i := 1) hR hS0 (h := ?_)
  refine tkn (i := 2) hR hS0 (h := ?_)
  refine onem (i := 3) hR (h := fun K hK => ?_)
  refine step_append_any _ rfl (.tmp 60) (.tmp 61) 34 rfl w.heap.size 32 i0 _ 11 128 Tryz.underlying34 hi0 hz0 hz1 hz2 rfl (by omega) _ 0 _ rfl hown2.out B A3 n3 c3 _ rfl hM3.out.1 (msg_one _) (by simp only [maxLen]; omega) (by omega) zd ?_
  intro v5 wA hown5 hga _
  have qA : Below w.heap.size w wA := grown_below qd hga (fun k hk => (World.ownsRow.lt hown2.out k hk).1)
  have kr5 : KR wd wA B := (KR.own hown2.out hga).low hBw
  simp only [List.map_nil, pairM, Nat.zero_add] at hown5
  have hgN : Hid (NdOk wA B NL a3) := hid_mk (hok3.out.kr kr5)
  have hmA : Hid (∀ p ∈ pm3, MsOk wA B p.1 p.2) := fun p hp => (hM3.out.2 p hp).kr' kr5
  replace hB := hid_mk (hB.out.ownR hown2.out (by simp) hga)
  obtain ⟨A9, c9, rfl, h91, h92⟩ := own_slice hown5
  have hM9 : Hid (Mgs wA B A9 n3 pm3) := ⟨Reads.of_own hown5, hmA.out⟩
  clear hown5 hga kr5 hmA hM3 hok3 hown2 qd
  have hS1 := (hB.out.at_ 0 rfl).atN
  refine hK.out _ _ (fun _ => hS1) ?_
  clear hK K hS0
  have hS0 := hS1
  clear hS1
  have lX := blk14f (hB.out.at_ 2 rfl)
  refine onem (i := 4) hR (h := fun K hK => ?_)
  go_simp
  clear lX
  have hkr := setN_kr (B := B) NL a3 (hB.out.at_ 2 rfl) (by dsimp only; omega)
  replace hM9 := hid_mk (mgs_setN hM9.out (hB.out.at_ 2 rfl) (by dsimp only; omega) NL a3)
  replace hgN := hid_mk (hgN.out.kr hkr)
  have qz := setN_below NL a3 qA (by omega : w.heap.size ≤ w.heap.size)
  have hBn := hB.out.setN 2 rfl NL a3
  obtain ⟨wz, hwz⟩ : ∃ x, setN wA (w.heap.size) NL a3 = x := ⟨_, rfl⟩
  rw [hwz] at hBn qz hM9 hgN
  replace hB : Hid (Bxs w.heap.size wz [⟨gZ, 30, ndC NL a3⟩, ⟨w.heap.size + 1, 30, ndC zeroN nilA⟩, ⟨w.heap.size, 30, ndC NL a3⟩]) := hid_mk hBn
  clear hBn hkr
  unfold setN set14 at hwz
  rw [hwz]
  clear hwz
  have hS1 := (hB.out.at_ 0 rfl).atN
  refine hK.out _ _ (fun _ => hS1) ?_
  clear hK K hS0
  have hS0 := hS1
  clear hS1
  refine onem (i := 5) hR (h := fun K hK => ?_)
  go_simp
  have hS1 := (hB.out.at_ 0 rfl).atN
  refine hK.out _ _ (fun _ => hS1) ?_
  clear hK K hS0
  have hS0 := hS1
  clear hS1
  refine donem hR (h := ?_)
  try simp only [Act.put]
  have z90 := qz.size
  have qz0 := qz
  clear qz
  have hfin := hid_mk (And.intro hf.out.1 (And.intro hf.out.2 he0.out))
  have lX := blk14f (hB.out.at_ 2 rfl)
  have lY := blk14f (hB.out.at_ 1 rfl)
  go_wp2
  clear lX lY
  have kf := setN_blk (N := NL) (a := a3) (hB.out.at_ 1 rfl)
  have qz := setN_below NL a3 qz0 (by omega : w.heap.size ≤ w.heap.size + 1)
  have hkr := setN_kr (B := B) NL a3 (hB.out.at_ 1 rfl) (by dsimp only; omega)
  unfold setN set14 at kf qz hkr
  have rs := blk14c kf
  refine ends_ret hQ (v := .tuple #[.agg (ndC NL a3), .slice (A9) n3 c9, .int .i64 0]) (by simp [results, Tryz.results43, go_sem, rs, ndC]) rfl ?_
  exact ⟨a3, A9, n3, c9, pm3, by rw [hfin.out.1, hfin.out.2.2]; rfl, by rw [hfin.out.1]; exact hgN.out.kr hkr, mgs_setN hM9.out (hB.out.at_ 1 rfl) (by dsimp only; omega) NL a3, by rw [hfin.out.2.1]; exact hp3.out, h91, qz⟩
theorem NTick_any (N : Nd) (a : NdA) (d : Int) (w : World) {B : Nat} (hBw : B ≤ w.heap.size) (hN : NdOk w B N a) (ht : Tab w) (mm : Int) (hm : w.cell? ⟨0, 0, none⟩ = some (.int .i64 mm)) :
    Calls Tryz.prog 43 #[nodeV N a, .int .i64 d] w (RetTk w B (tickN N d) (tickL N d) (tickE N)) := by
  cases h : tkB N with
  | false => exact NTick1_any N a d w hBw hN ht h mm hm
  | true => exact NTick2_any N a d w hBw hN ht h mm hm
end Go.Proofs.YtncdjmpdbinanaaGreatDoor
